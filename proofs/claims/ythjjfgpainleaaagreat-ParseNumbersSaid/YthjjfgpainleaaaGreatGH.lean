/- append, in my own words: what is appended, and what becomes of the world. The parser: either of some. The parser: a row of some. The parser's cells, when they are written. -/
import Derived.Test.YthjjfgpainleaaaGreatGA
import Derived.Deep.AppendLies
import Derived.Deep.Upon
import Derived.Test.YthjjfgpainleaaaGreatPrsC
import Derived.Test.YthjjfgpainleaaaGreatGG

set_option linter.unusedSimpArgs false
set_option linter.unusedVariables false
set_option linter.all false

namespace Go.Proofs
namespace Th
open Go.RowKit

/-- The cells of a slice's m elements. -/
def NewsAt (w : World) (size : Nat) (vx : Value) (m : Nat) (news : List Value) : Prop :=
  news.length = m * size ∧ (∀ u ∈ news, u.oneCell' = true) ∧ ((m = 0 ∧ ∃ c, vx = .slice none 0 c) ∨ ∃ ad c, vx = .slice (some ad) m c ∧ ∀ j u, news[j]? = some u → w.cell? (ad.add j) = some u)

theorem NewsAt.of_block {w : World} {size m c B : Nat} {cs : List Value} {t : TypeId} {fr : Nat × Nat} (hb : w.heap[B]? = some (.cells cs.toArray t fr)) (hl : cs.length = m * size) (h1 : ∀ u ∈ cs, u.oneCell' = true) : NewsAt w size (.slice (some ⟨B, 0, none⟩) m c) m cs :=
  ⟨hl, h1, .inr ⟨_, _, rfl, by simpa using World.news_of_block hb⟩⟩

theorem heap_new {w : World} {o : Obj} {B : Nat} (h : B = w.heap.size) : (w.alloc o).heap[B]? = some o := by subst h; exact heap_alloc_new w o

theorem Keeps.of_grown {w w' : World} {row : Option Nat} (h : w.grownBy w' row) : Keeps (fun k => row = some k) w w' :=
  ⟨h.os, h.tape, h.output, h.size, fun k hk hn => h.block k hk (fun e => hn e.symm)⟩

section
variable {P : Program} {w : World} {ops : Array Oper} {rest : List Oper} {o : Oper} {a : Act} {Q : Exit → Act → World → Prop}

/-- append: the value that comes of it, and the world. -/
def AppPost (base : Nat) (e : TypeId) (size : Nat) (v : Value) (n m : Nat) (xs news : List Value) (w : World) (A : Option Addr) (c : Nat) (w' : World) : Prop :=
  w'.ownsRow base e size (.slice A (n + m) c) (n + m) (xs ++ news) ∧ Keeps (fun k => v.ownBlock = some k) w w' ∧ (Value.ownBlock (.slice A (n + m) c) = v.ownBlock ∨ Value.ownBlock (.slice A (n + m) c) = some w.heap.size)

theorem run_app (t ty : TypeId) (base : Nat) (e : TypeId) (i : TypeInfo) (z : Value) (size bytes : Nat) (ht : P.underlying t = some (.slice e)) (hi : P.info? e = some i) (hz : i.zero = some z)
    (hsize : i.size = size) (hby : i.bytes = bytes) (hzs : z.cells.size = size) (hsz : 0 < size)
    {v : Value} {n : Nat} {xs : List Value} (hown : w.ownsRow base e size v n xs)
    {vx : Value} {m : Nat} {news : List Value} (hnews : NewsAt w size vx m news) (h63 : n + m ≤ maxLen) (hbytes : (n + m) * bytes ≤ 140737488355328) (hbase : base ≤ w.heap.size) :
    ∃ A c w', (Builtin.append_ #[t, t] ty #[v, vx]).run P w = .ok (.slice A (n + m) c) w' ∧ AppPost base e size v n m xs news w A c w' := by
  obtain ⟨hl, h1, hx⟩ := hnews
  by_cases hm : 0 < m
  · rcases hx with ⟨h0, _⟩ | ⟨ad, c, rfl, hc⟩
    · omega
    obtain ⟨g, cap, w', hr, h2, h3, h4, h5⟩ := run_append_lies (P := P) w t ty base e i z size bytes ht hi hz hsize hby hzs hsz v n xs hown ad m c news hl hc h1 hm h63 hbytes hbase _ rfl
    exact ⟨_, _, w', hr, h2, Keeps.of_grown h3, by rcases h4 with h4 | h4; exact .inl h4.symm; exact .inr (by rw [h4]; rfl)⟩
  · have h0 : m = 0 := by omega
    subst h0
    have hnil : news = [] := by simpa using hl
    subst hnil
    have hsrc : Src P i.size t vx 0 [] w := by
      rcases hx with ⟨_, c, rfl⟩ | ⟨ad, c, rfl, hc⟩
      · exact Src.ofNil w ht c
      · exact Src.ofSlice w ht ad 0 c [] (by simp) (by simp) (by simp)
    have hsl : ∃ A c, v = .slice A n c ∧ n ≤ c := by
      rcases hown.2 with ⟨h1, h2⟩ | ⟨g, cap, cur, h1, _, _, h4, _⟩
      · exact ⟨none, 0, by rw [h1, h2], by omega⟩
      · exact ⟨_, _, h1, h4⟩
    obtain ⟨A, c, rfl, hle⟩ := hsl
    refine ⟨A, c, w, run_append_nothing w t t ty e i ht hi A n c hle vx hsrc, ?_, Keeps.refl _ _, .inl rfl⟩
    simpa using hown

theorem wpl_app (hgd : o.guard = none) (s x : Operand) (t : TypeId)
    (ho : o.op = .call { callee := .builtin .append, args := #[s, x], argTypes := #[t, t] })
    (base : Nat) (e : TypeId) (i : TypeInfo) (z : Value) (size bytes : Nat) (ht : P.underlying t = some (.slice e)) (hi : P.info? e = some i) (hz : i.zero = some z)
    (hsize : i.size = size) (hby : i.bytes = bytes) (hzs : z.cells.size = size) (hsz : 0 < size)
    {v : Value} {n : Nat} {xs : List Value} (hs : a.eval s = v) (hown : w.ownsRow base e size v n xs)
    {vx : Value} {m : Nat} {news : List Value} (hx : a.eval x = vx) (hnews : NewsAt w size vx m news) (h63 : n + m ≤ maxLen) (hbytes : (n + m) * bytes ≤ 140737488355328) (hbase : base ≤ w.heap.size)
    (h : ∀ A c w', AppPost base e size v n m xs news w A c w' → wpList P ops Q rest (a.put o.dst (.slice A (n + m) c)) w') : wpList P ops Q (o :: rest) a w := by
  obtain ⟨A, c, w', hr, hp⟩ := run_app (P := P) t o.type base e i z size bytes ht hi hz hsize hby hzs hsz hown hnews h63 hbytes hbase
  refine wpList_plain hgd fun K hK => ?_
  unfold Oper.wp execOp
  simp only [ho, resolve, invoke, builtin, Sem.run_bind, Sem.run_pure, Result.andThen_ok, List.map_toArray, List.map_cons, List.map_nil, hs, hx, hr]
  exact hK _ _ (h A c w' hp)

/-- At a step of a region that draws its order. -/
theorem step_app {K : Act → World → Prop} {E : Prop} (hgd : o.guard = none) (s x : Operand) (t : TypeId)
    (ho : o.op = .call { callee := .builtin .append, args := #[s, x], argTypes := #[t, t] })
    (base : Nat) (e : TypeId) (i : TypeInfo) (z : Value) (size bytes : Nat) (ht : P.underlying t = some (.slice e)) (hi : P.info? e = some i) (hz : i.zero = some z)
    (hsize : i.size = size) (hby : i.bytes = bytes) (hzs : z.cells.size = size) (hsz : 0 < size)
    {v : Value} {n : Nat} {xs : List Value} (hs : a.eval s = v) (hown : w.ownsRow base e size v n xs)
    {vx : Value} {m : Nat} {news : List Value} (hx : a.eval x = vx) (hnews : NewsAt w size vx m news) (h63 : n + m ≤ maxLen) (hbytes : (n + m) * bytes ≤ 140737488355328) (hbase : base ≤ w.heap.size)
    (h : ∀ A c w', AppPost base e size v n m xs news w A c w' → K (a.put o.dst (.slice A (n + m) c)) w') :
    if Region.wanted o (yielded ops a.tmps) = true then Oper.wp P o a w K Q else E := by
  have hw : Region.wanted o (yielded ops a.tmps) = true := by simp [Region.wanted, hgd]
  rw [if_pos hw]
  obtain ⟨A, c, w', hr, hp⟩ := run_app (P := P) t o.type base e i z size bytes ht hi hz hsize hby hzs hsz hown hnews h63 hbytes hbase
  unfold Oper.wp execOp
  simp only [ho, resolve, invoke, builtin, Sem.run_bind, Sem.run_pure, Result.andThen_ok, List.map_toArray, List.map_cons, List.map_nil, hs, hx, hr]
  exact h A c w' hp

end

end Th
end Go.Proofs

namespace Go.Proofs
namespace Th
open Go.RowKit

theorem NodeRep.keeps {S : Nat → Prop} {w w' : World} {c : List Value} {t : Nd} {F : List Nat} (h : NodeRep w c t F) (hk : Keeps S w w') (hs : ∀ g ∈ F, ¬ S g) : NodeRep w' c t F := h.keep fun g hg => hk.block g (h.kind.1.lt hg) (hs g hg)
theorem NodesRep.keeps {S : Nat → Prop} {w w' : World} {c : List Value} {t : List Nd} {F : List Nat} (h : NodesRep w c t F) (hk : Keeps S w w') (hs : ∀ g ∈ F, ¬ S g) : NodesRep w' c t F := h.keep fun g hg => hk.block g (h.kind.1.lt hg) (hs g hg)

/-- A node as a value. -/
def NdV (w : World) (v : Value) (t : Nd) (F : List Nat) : Prop := ∃ c : List Value, v = .agg c.toArray ∧ NodeRep w c t F

theorem SliceV.slice {w : World} {e : TypeId} {size n : Nat} {v : Value} {xs : List Value} {F : List Nat} (h : SliceV w e size v n xs F) : ∃ A c, v = .slice A n c := by
  rcases h.2 with ⟨h1, h2, _⟩ | ⟨g, cap, cur, h1, _⟩
  · exact ⟨none, 0, by rw [h1, h2]⟩
  · exact ⟨_, _, h1⟩

/-- The eight cells of a node, and what it says. -/
theorem NodeRep.out {w : World} {c : List Value} {t : Nd} {F : List Nat} (h : NodeRep w c t F) :
    ∃ sv kv xs Fs Fk Fl, c = [.int .i64 t.kind, sv, kv, .int .i64 t.number, .int .i64 t.least, .int .i64 t.most, .int .i64 t.way, .bool t.fold] ∧ F = Fs ++ Fk ++ Fl ∧
      SliceV w 85 2 sv t.set.length (rngCells t.set) Fs ∧ SliceV w 27 8 kv t.kids.length xs Fk ∧ NodesRep w xs t.kids Fl := by
  cases h with
  | mk hs hk hl => exact ⟨_, _, _, _, _, _, rfl, rfl, hs, hk, hl⟩

/-- Element j of a row of nodes. -/
theorem nodes_at {w : World} {v : Value} {ts : List Nd} {xs : List Value} {Fl F : List Nat} (hv : SliceV w 27 8 v ts.length xs Fl) (hn : NodesRep w xs ts F) {j : Nat} (hj : j < ts.length) :
    ∃ g cap sA sn sc kA kc ks Fs Fk Fq, v = .slice (some ⟨g, 0, none⟩) ts.length cap ∧ ts.length ≤ cap ∧ cap ≤ maxLen ∧ g < w.heap.size ∧
      w.cell? ⟨g, j * 8, none⟩ = some (.int .i64 ts[j].kind) ∧ w.cell? ⟨g, j * 8 + 1, none⟩ = some (.slice sA sn sc) ∧ w.cell? ⟨g, j * 8 + 2, none⟩ = some (.slice kA ts[j].kids.length kc) ∧ w.cell? ⟨g, j * 8 + 3, none⟩ = some (.int .i64 ts[j].number) ∧
      w.cell? ⟨g, j * 8 + 4, none⟩ = some (.int .i64 ts[j].least) ∧ w.cell? ⟨g, j * 8 + 5, none⟩ = some (.int .i64 ts[j].most) ∧ w.cell? ⟨g, j * 8 + 6, none⟩ = some (.int .i64 ts[j].way) ∧ w.cell? ⟨g, j * 8 + 7, none⟩ = some (.bool ts[j].fold) ∧
      NodeRep w [.int .i64 ts[j].kind, .slice sA sn sc, .slice kA ts[j].kids.length kc, .int .i64 ts[j].number, .int .i64 ts[j].least, .int .i64 ts[j].most, .int .i64 ts[j].way, .bool ts[j].fold] ts[j] (Fs ++ Fk ++ Fq) ∧
      SliceV w 27 8 (.slice kA ts[j].kids.length kc) ts[j].kids.length ks Fk ∧ NodesRep w ks ts[j].kids Fq ∧ ∃ F1 F3, F = F1 ++ (Fs ++ Fk ++ Fq) ++ F3 ∧ NodesRep w (xs.take (j * 8)) (ts.take j) F1 := by
  obtain ⟨g, cap, e1, _, e2, e3, e4, hc⟩ := hv.cells hj
  obtain ⟨k, F1, F2, F3, h1, h2, h3, h4, _, _⟩ := hn.get hj
  obtain ⟨sv, kv, ks, Fs, Fk, Fq, rfl, rfl, hs, hk, hq⟩ := h1.out
  obtain ⟨sA, sc, rfl⟩ := hs.slice
  obtain ⟨kA, kc, rfl⟩ := hk.slice
  have hx : ∀ i (hi : i < 8), w.cell? ⟨g, j * 8 + i, none⟩ = _ := fun i hi => (hc i hi).trans (h3 i hi)
  exact ⟨g, cap, sA, _, sc, kA, kc, ks, Fs, Fk, Fq, e1, e2, e3, e4, hx 0 (by omega), hx 1 (by omega), hx 2 (by omega), hx 3 (by omega), hx 4 (by omega), hx 5 (by omega), hx 6 (by omega), hx 7 (by omega), h1, hk, hq, F1, F3, h2, h4⟩

set_option maxHeartbeats 1000000 in
theorem either_one {w : World} {v : Value} {ts : List Nd} {xs : List Value} {Fl F : List Nat} (hv : SliceV w 27 8 v ts.length xs Fl) (hn : NodesRep w xs ts F) (h1 : ts.length = 1) :
    Calls Tryz.prog 39 #[v] w fun e w' => (∃ v' F', e = .returned v' ∧ NdV w' v' (eitherN ts) F' ∧ F'.Sublist F) ∧ Keeps No w w' := by
  obtain ⟨g, cap, sA, sn, sc, kA, kc, ks, Fs, Fk, Fq, rfl, hcap, hmax, hg, c0, c1, c2, c3, c4, c5, c6, c7, hN, _, _, F1, F3, hF, _⟩ := nodes_at hv hn (j := 0) (by omega)
  have he : eitherN ts = ts[0] := by
    match ts, h1 with
    | [x], _ => rfl
  rw [he]
  generalize ts[0]'(by omega) = t at *
  rw [h1]
  clear hv hn he h1 hcap
  simp only [Nat.zero_mul, Nat.zero_add] at c0 c1 c2 c3 c4 c5 c6 c7
  go_enter Tryz.func39, Tryz.ntmps39
  go_wp2
  refine bodyPost_ret (v := .agg #[.int .i64 t.kind, .slice sA sn sc, .slice kA t.kids.length kc, .int .i64 t.number, .int .i64 t.least, .int .i64 t.most, .int .i64 t.way, .bool t.fold]) (by simp [results, Tryz.results39, go_sem, ndV, *]) rfl ⟨⟨_, _, rfl, ⟨_, rfl, hN.keeps (S := No) ?_ (fun _ _ h => h)⟩, ?_⟩, ?_⟩
  · (repeat' (first | with_reducible exact Keeps.refl _ _ | with_reducible refine Keeps.set ?_ (by simp <;> omega) _ | with_reducible refine Keeps.alloc ?_ _ | with_reducible refine Keeps.drewN ?_ _ | with_reducible refine Keeps.drew ?_))
  · rw [hF]; exact (List.sublist_append_right _ _).trans (List.sublist_append_left _ _)
  · (repeat' (first | with_reducible exact Keeps.refl _ _ | with_reducible refine Keeps.set ?_ (by simp <;> omega) _ | with_reducible refine Keeps.alloc ?_ _ | with_reducible refine Keeps.drewN ?_ _ | with_reducible refine Keeps.drew ?_))


theorem SliceV.news {w : World} {e : TypeId} {size n c : Nat} {A : Option Addr} {xs : List Value} {F : List Nat} (h : SliceV w e size (.slice A n c) n xs F) (hn : 0 < n) :
    ∃ g, A = some ⟨g, 0, none⟩ ∧ F = [g] ∧ ∀ j u, xs[j]? = some u → w.cell? ((⟨g, 0, none⟩ : Addr).add j) = some u := by
  rcases h.2 with ⟨_, h0, _⟩ | ⟨g, cap, cur, h1, h2, h3, h4, h5, h6⟩
  · omega
  · injection h1 with h1 _ _
    refine ⟨g, h1, h2, fun j u hj => ?_⟩
    have hlt : j < n * size := by
      have := (List.getElem?_eq_some_iff.1 hj).1
      rw [h.1] at this
      exact this
    have hadd : (⟨g, 0, none⟩ : Addr).add j = ⟨g, j, none⟩ := by unfold Addr.add; split <;> simp_all
    rw [hadd, cell_of_row w g j cur e (0, 0) h3, ← Array.getElem?_toList, ← hj, ← h6, List.getElem?_take_of_lt hlt]

theorem NodeRep.one {w : World} {c : List Value} {t : Nd} {F : List Nat} (h : NodeRep w c t F) : ∀ u ∈ c, u.oneCell' = true := by
  obtain ⟨sv, kv, xs, Fs, Fk, Fl, rfl, _, hs, hk, _⟩ := h.out
  obtain ⟨A, n, rfl⟩ := hs.slice
  obtain ⟨A, n, rfl⟩ := hk.slice
  intro u hu
  simp at hu
  rcases hu with rfl | rfl | rfl | rfl | rfl | rfl | rfl | rfl <;> rfl
theorem NodesRep.one {w : World} {c : List Value} {t : List Nd} {F : List Nat} (h : NodesRep w c t F) : ∀ u ∈ c, u.oneCell' = true := by
  induction t generalizing c F with
  | nil => cases h; simp
  | cons x t ih =>
    cases h with
    | cons h hs =>
      intro u hu
      rcases List.mem_append.1 hu with hu | hu
      · exact h.one u hu
      · exact ih hs u hu

theorem ownsRow.slice {w : World} {base size n : Nat} {e : TypeId} {v : Value} {xs : List Value} (h : w.ownsRow base e size v n xs) : ∃ A c, v = .slice A n c ∧ n ≤ c := by
  rcases h.2 with ⟨h1, h2⟩ | ⟨g, cap, cur, h1, _, _, h4, _⟩
  · exact ⟨none, 0, by rw [h1, h2], by omega⟩
  · exact ⟨_, _, h1, h4⟩

theorem flatEither_take {ts : List Nd} {k : Nat} (hk : k < ts.length) : flatEither (ts.take (k + 1)) = flatEither (ts.take k) ++ (if ts[k].kind = 10 then ts[k].kids else [ts[k]]) := by
  unfold flatEither
  rw [List.take_succ_eq_append_getElem hk, List.flatMap_append, List.flatMap_singleton]

theorem nodeInfo : (Tryz.prog.info? 27).map (fun i => (i.zero, i.size, i.bytes)) = some (some (.agg #[.int .i64 0, .slice none 0 0, .slice none 0 0, .int .i64 0, .int .i64 0, .int .i64 0, .int .i64 0, .bool false]), 8, 96) := by kernel_rfl

theorem NodeRep.alone {w : World} {c : List Value} {t : Nd} {F : List Nat} (h : NodeRep w c t F) : NodesRep w c [t] F := by
  have := NodesRep.cons h (NodesRep.nil (w := w))
  simpa using this

/-- The head of a row of nodes. -/
theorem NodesRep.head {w : World} {c : List Value} {x : Nd} {ts : List Nd} {F : List Nat} (h : NodesRep w c (x :: ts) F) :
    ∃ sA sn sc kA kc ks Fs Fk Fq p, NodeRep w [.int .i64 x.kind, .slice sA sn sc, .slice kA x.kids.length kc, .int .i64 x.number, .int .i64 x.least, .int .i64 x.most, .int .i64 x.way, .bool x.fold] x (Fs ++ Fk ++ Fq) ∧
      SliceV w 27 8 (.slice kA x.kids.length kc) x.kids.length ks Fk ∧ NodesRep w ks x.kids Fq ∧ F.take p = Fs ++ Fk ++ Fq ∧ NodesRep w (c.drop 8) ts (F.drop p) ∧
      c.take 8 = [.int .i64 x.kind, .slice sA sn sc, .slice kA x.kids.length kc, .int .i64 x.number, .int .i64 x.least, .int .i64 x.most, .int .i64 x.way, .bool x.fold] := by
  cases h with
  | @cons k xs _ _ F1 F2 h hs =>
    obtain ⟨sv, kv, ks, Fs, Fk, Fq, rfl, rfl, h1, h2, h3⟩ := h.out
    obtain ⟨sA, sc, rfl⟩ := h1.slice
    obtain ⟨kA, kc, rfl⟩ := h2.slice
    refine ⟨sA, _, sc, kA, kc, ks, Fs, Fk, Fq, (Fs ++ Fk ++ Fq).length, h, h2, h3, List.take_left, ?_, rfl⟩
    rw [List.drop_left]
    exact hs


/-- A row of nodes of a call's own, that grows. -/
def NL (w : World) (base : Nat) (v : Value) (ts : List Nd) (G : List Nat) : Prop :=
  ∃ xo, w.ownsRow base 27 8 v ts.length xo ∧ NodesRep w xo ts G ∧ ∀ g ∈ G, v.ownBlock ≠ some g

theorem NL.nil (w : World) (base : Nat) : NL w base (.slice none 0 0) [] [] := ⟨[], World.ownsRow_nil _ _ _ _, .nil, by simp⟩
theorem NL.slice {w : World} {base : Nat} {v : Value} {ts : List Nd} {G : List Nat} (h : NL w base v ts G) : ∃ A c, v = .slice A ts.length c := by
  obtain ⟨xo, h, _⟩ := h
  obtain ⟨A, c, h, _⟩ := ownsRow.slice h
  exact ⟨A, c, h⟩
theorem NL.keep {S : Nat → Prop} {w w' : World} {base : Nat} {v : Value} {ts : List Nd} {G : List Nat} (h : NL w base v ts G) (hk : Keeps S w w') (h1 : ∀ g ∈ G, ¬ S g) (h2 : ∀ g, v.ownBlock = some g → ¬ S g) : NL w' base v ts G := by
  obtain ⟨xo, ho, hn, hd⟩ := h
  refine ⟨xo, ownsRow_keep ho fun g hg => ?_, hn.keeps hk h1, hd⟩
  have hg' : v.ownBlock = some g := by simpa [own] using hg
  obtain ⟨_, hlt⟩ := ho.lt g hg'
  exact hk.block g hlt (h2 g hg')
theorem NL.keepN {w w' : World} {base : Nat} {v : Value} {ts : List Nd} {G : List Nat} (h : NL w base v ts G) (hk : Keeps No w w') : NL w' base v ts G := h.keep hk (fun _ _ h => h) (fun _ _ h => h)
theorem NL.lt {w : World} {base : Nat} {v : Value} {ts : List Nd} {G : List Nat} (h : NL w base v ts G) : ∀ g, v.ownBlock = some g → base ≤ g ∧ g < w.heap.size := by
  obtain ⟨xo, ho, _⟩ := h
  exact ho.lt
/-- What is written to a row of the call's own is new to whoever called. -/
theorem NL.keeps {w w1 w2 : World} {base : Nat} {v : Value} {ts : List Nd} {G : List Nat} (h : NL w1 base v ts G) (hb : w.heap.size ≤ base) (hk : Keeps No w w1) (hk2 : Keeps (fun k => v.ownBlock = some k) w1 w2) : Keeps No w w2 :=
  hk.trans' hk2 fun k hlt e => absurd (h.lt k e).1 (by omega)

/-- The cells of a slice's elements, as they lie. -/
theorem SliceV.newsAt {w : World} {e : TypeId} {size n c : Nat} {A : Option Addr} {xs : List Value} {F : List Nat} (h : SliceV w e size (.slice A n c) n xs F) (h1 : ∀ u ∈ xs, u.oneCell' = true) : NewsAt w size (.slice A n c) n xs := by
  refine ⟨h.1, h1, ?_⟩
  rcases h.2 with ⟨h2, h3, _⟩ | ⟨g, cap, cur, h2, h3, h4, h5, h6, h7⟩
  · injection h2 with h2 _ h4
    exact .inl ⟨h3, c, by rw [h2, h3]⟩
  · injection h2 with h2 _ _
    refine .inr ⟨_, c, by rw [h2], fun j u hj => ?_⟩
    have hlt : j < n * size := by
      have := (List.getElem?_eq_some_iff.1 hj).1
      rw [h.1] at this
      exact this
    have hadd : (⟨g, 0, none⟩ : Addr).add j = ⟨g, j, none⟩ := by unfold Addr.add; split <;> simp_all
    rw [hadd, cell_of_row w g j cur e (0, 0) h4, ← Array.getElem?_toList, ← hj, ← h7, List.getElem?_take_of_lt hlt]

theorem SliceV.nil (w : World) (e : TypeId) (size : Nat) : SliceV w e size (.slice none 0 0) 0 [] [] := ⟨by simp, .inl ⟨rfl, rfl, rfl⟩⟩
theorem SliceV.keeps {S : Nat → Prop} {w w' : World} {e : TypeId} {size n : Nat} {v : Value} {xs : List Value} {F : List Nat} (h : SliceV w e size v n xs F) (hk : Keeps S w w') (hs : ∀ g ∈ F, ¬ S g) : SliceV w' e size v n xs F :=
  h.keep fun g hg => by obtain ⟨cur, hc⟩ := h.lt g hg; exact hk.block g (Array.getElem?_eq_some_iff.1 hc).1 (hs g hg)
/-- A node over a row of nodes. -/
theorem NL.node {w : World} {v : Value} {ts : List Nd} {xo : List Value} {Fk G : List Nat} (hsl : SliceV w 27 8 v ts.length xo Fk) (hG : NodesRep w xo ts G) (kind : Int) :
    NodeRep w [.int .i64 kind, nilS, v, .int .i64 0, .int .i64 0, .int .i64 0, .int .i64 0, .bool false] (.mk kind [] ts 0 0 0 0 false) (Fk ++ G) := by
  have := NodeRep.mk (kind := kind) (number := 0) (least := 0) (most := 0) (way := 0) (fold := false) (SliceV.nil w 85 2) hsl hG (set := [])
  simpa [nilS] using this

/-- A node's box as it is made. -/
abbrev ndBox : Obj := .cells #[.int .i64 0, .slice none 0 0, .slice none 0 0, .int .i64 0, .int .i64 0, .int .i64 0, .int .i64 0, .bool false] 27

section
variable {w : World} {ops : Array Oper} {rest : List Oper} {o : Oper} {a : Act} {Q : Exit → Act → World → Prop}
/-- Nodes are put behind a row of the call's own. -/
theorem wpl_nodes (hgd : o.guard = none) (s x : Operand) (ho : o.op = .call { callee := .builtin .append, args := #[s, x], argTypes := #[25, 25] })
    {base : Nat} {v : Value} {ts : List Nd} {G : List Nat} (hs : a.eval s = v) (h : NL w base v ts G) {vx : Value} {us : List Nd} {news : List Value} {F : List Nat} (hx : a.eval x = vx) (hnews : NewsAt w 8 vx us.length news) (hF : NodesRep w news us F)
    (hdF : ∀ g ∈ F, v.ownBlock ≠ some g) (hlen : ts.length + us.length ≤ 5000) (hbase : base ≤ w.heap.size)
    (K : ∀ A c w', NL w' base (.slice A (ts ++ us).length c) (ts ++ us) (G ++ F) → Keeps (fun k => v.ownBlock = some k) w w' →
      (Value.ownBlock (.slice A (ts ++ us).length c) = v.ownBlock ∨ Value.ownBlock (.slice A (ts ++ us).length c) = some w.heap.size) → wpList Tryz.prog ops Q rest (a.put o.dst (.slice A (ts ++ us).length c)) w') : wpList Tryz.prog ops Q (o :: rest) a w := by
  obtain ⟨i0, hi, hz0, hz1, hz2⟩ := info_parts nodeInfo
  obtain ⟨xo, ho', hG, hd⟩ := h
  refine wpl_app hgd s x 25 ho base 27 i0 _ 8 96 Tryz.underlying25 hi hz0 hz1 hz2 rfl (by decide) hs ho' hx hnews (by unfold maxLen; omega) (by omega) hbase ?_
  rintro A c w' ⟨h1, h2, h3⟩
  have hl : ts.length + us.length = (ts ++ us).length := by simp
  rw [hl] at h1 h3 ⊢
  have hGF : ∀ g ∈ G ++ F, v.ownBlock ≠ some g := fun g hg => (List.mem_append.1 hg).elim (hd g) (hdF g)
  have hlt : ∀ g ∈ G ++ F, g < w.heap.size := fun g hg => (List.mem_append.1 hg).elim (fun h => hG.kind.1.lt h) (fun h => hF.kind.1.lt h)
  refine K A c w' ⟨_, h1, (hG.append hF).keeps h2 (fun g hg => hGF g hg), fun g hg => ?_⟩ h2 h3
  rcases h3 with h3 | h3
  · rw [h3]; exact hGF g hg
  · rw [h3]; intro e; injection e with e; have := hlt g hg; omega
end

set_option maxRecDepth 100000 in
set_option maxHeartbeats 2000000 in
theorem either_many {w : World} {v : Value} {ts : List Nd} {xs : List Value} {Fl F : List Nat} (hv : SliceV w 27 8 v ts.length xs Fl) (hn : NodesRep w xs ts F) (h1 : 1 < ts.length) (hc : countNs ts ≤ 1000) :
    Calls Tryz.prog 39 #[v] w fun e w' => (∃ v' F' g, e = .returned v' ∧ NdV w' v' (eitherN ts) (g ++ F') ∧ F'.Sublist F ∧ (∀ x ∈ g, w.heap.size ≤ x) ∧ g.length ≤ 1) ∧ Keeps No w w' := by
  obtain ⟨A, c, rfl⟩ := hv.slice
  have hlen := length_le_count ts
  generalize hnn : ts.length = n at *
  have HN := hid hnn
  clear hnn
  have hn1 : ((n : Int) == 1) = false := by simp; omega
  go_enter Tryz.func39, Tryz.ntmps39
  go_wp2
  go_loopg [3, 14] n (fun gk v i wr => ∃ (k p : Nat) (G : List Nat), gk + k = n ∧ i = .int .i64 k ∧ NL wr (w.heap.size + 1) v (flatEither (ts.take k)) G ∧ G.Sublist (F.take p) ∧
    NodesRep w (xs.drop (k * 8)) (ts.drop k) (F.drop p) ∧ Keeps No (w.alloc ndBox) wr)
  case atStart => exact ⟨0, 0, [], rfl, rfl, NL.nil _ _, by simp, by simpa using hn, by (repeat' (first | with_reducible exact Keeps.refl _ _ | with_reducible refine Keeps.set ?_ (by simp <;> omega) _ | with_reducible refine Keeps.alloc ?_ _ | with_reducible refine Keeps.drewN ?_ _ | with_reducible refine Keeps.drew ?_))⟩
  case round =>
    obtain ⟨k, p, G, hk, rfl, ho, hS, hR, hkb⟩ := hrel
    have hkp : Keeps No w wr := Keeps.trans (by (repeat' (first | with_reducible exact Keeps.refl _ _ | with_reducible refine Keeps.set ?_ (by simp <;> omega) _ | with_reducible refine Keeps.alloc ?_ _ | with_reducible refine Keeps.drewN ?_ _ | with_reducible refine Keeps.drew ?_))) hkb
    have hws : w.heap.size + 1 ≤ wr.heap.size := by have := hkb.size; simp at this; omega
    have c0_hkb := fun o => hkb.cell (b := w.heap.size) (o := o) (by first | omega | (simp; done) | (simp; omega)) (by first | omega | (simp; done) | (simp; omega)); have z0_hkb := fun o => hkb.frozen (b := w.heap.size) (o := o) (by first | omega | (simp; done) | (simp; omega)) (by first | omega | (simp; done) | (simp; omega))
    obtain ⟨oA, oc, rfl⟩ := ho.slice
    by_cases hlt : k < n
    · have hkl : k < ts.length := by rw [HN.out]; exact hlt
      have hflat := hid (flatEither_take hkl)
      have hcnt : countNs (flatEither (ts.take k)) + countN ts[k] ≤ 1000 := by
        have h1 := flatEither_count (ts.take k)
        have h2 : countNs ts = countNs (ts.take k) + (countN ts[k] + countNs (ts.drop (k + 1))) := by
          conv => lhs; rw [← List.take_append_drop k ts, countNs_append, List.drop_eq_getElem_cons hkl]
          rfl
        omega
      have hfl0 := length_le_count (flatEither (ts.take k))
      rw [List.drop_eq_getElem_cons hkl] at hR
      have hcell : ∃ g cap, (Value.slice A n c) = .slice (some ⟨g, 0, none⟩) n cap ∧ Fl = [g] ∧ n ≤ cap ∧ cap ≤ maxLen ∧ g < w.heap.size ∧ ∀ i (_ : i < 8), w.cell? ⟨g, k * 8 + i, none⟩ = xs[k * 8 + i]? := hv.cells hlt
      obtain ⟨g, cap, hA, _, hcap, hmax, hg, hce⟩ := hcell
      injection hA with hA _ hcc
      subst hA hcc
      generalize ts[k] = t at *
      obtain ⟨sA, sn, sc, kA, kc, ks, Fs, Fk, Fq, q, hN, hK, hQ, hF2, hR2, hx8⟩ := hR.head
      have hce2 : ∀ i (_ : i < 8), wr.cell? ⟨g, k * 8 + i, none⟩ = ([.int .i64 t.kind, .slice sA sn sc, .slice kA t.kids.length kc, .int .i64 t.number, .int .i64 t.least, .int .i64 t.most, .int .i64 t.way, .bool t.fold] : List Value)[i]? := fun i hi => by
        rw [hkp.cell hg id, hce i hi, ← hx8, List.getElem?_take_of_lt hi, List.getElem?_drop]
      have c0 := hce2 0 (by omega); have c1 := hce2 1 (by omega); have c2 := hce2 2 (by omega); have c3 := hce2 3 (by omega)
      have c4 := hce2 4 (by omega); have c5 := hce2 5 (by omega); have c6 := hce2 6 (by omega); have c7 := hce2 7 (by omega)
      simp only [Nat.add_zero, List.getElem?_cons_zero, List.getElem?_cons_succ] at c0 c1 c2 c3 c4 c5 c6 c7
      have hkids := length_le_count t.kids
      have hct := countN_kids t
      have hfar : ∀ x ∈ Fs ++ Fk ++ Fq, Value.ownBlock (.slice oA (flatEither (ts.take k)).length oc) ≠ some x := fun x hx e => by have := (ho.lt x e).1; have := hN.kind.1.lt hx; omega
      have hRn : NodesRep w (xs.drop ((k + 1) * 8)) (ts.drop (k + 1)) (F.drop (p + q)) := by
        have e1 : xs.drop ((k + 1) * 8) = (xs.drop (k * 8)).drop 8 := by rw [List.drop_drop]; congr 1; omega
        have e2 : F.drop (p + q) = (F.drop p).drop q := by rw [List.drop_drop]
        rw [e1, e2]; exact hR2
      generalize flatEither (ts.take k) = fl at *
      clear hv hn hce hce2 hR hcap hR2
      by_cases hk10 : t.kind = 10
      · have hk10' : (t.kind == 10) = true := by simpa using hk10
        rw [if_pos hk10] at hflat
        clear hk10
        go_wp2_with (at_builtin; go_loud (refine wpl_nodes rfl _ _ rfl rfl (ho.keepN (by (repeat' (first | with_reducible exact Keeps.refl _ _ | with_reducible refine Keeps.set ?_ (by simp <;> omega) _ | with_reducible refine Keeps.alloc ?_ _ | with_reducible refine Keeps.drewN ?_ _ | with_reducible refine Keeps.drew ?_)))) rfl ((hK.keep (fun g hg => (hkp.alloc _).block g (hN.kind.1.lt (by simp [hg])) id)).newsAt (hQ.one)) (hQ.keeps (hkp.alloc _) (fun _ _ h => h)) (fun g hg => hfar g (by simp [hg])) (by omega) (by simp; omega) ?_; intro A2 c2 w2 hown2 hgrow2 hat2))
        have hkg : Keeps No (w.alloc ndBox) w2 := (ho.keepN (by (repeat' (first | with_reducible exact Keeps.refl _ _ | with_reducible refine Keeps.set ?_ (by simp <;> omega) _ | with_reducible refine Keeps.alloc ?_ _ | with_reducible refine Keeps.drewN ?_ _ | with_reducible refine Keeps.drew ?_)))).keeps (by simp) (hkb.alloc _) hgrow2
        go_roundg (gk - 1)
        case measure => omega
        case rel =>
          refine ⟨k + 1, p + q, G ++ Fq, by omega, by go_num, by rw [hflat.out]; simpa only [List.length_append, List.length_cons, List.length_nil, Nat.zero_add] using hown2, ?_, hRn, hkg⟩
          rw [List.take_add, hF2]
          exact hS.append (List.sublist_append_right _ _)
      · have hk10' : (t.kind == 10) = false := by simpa using hk10
        rw [if_neg hk10] at hflat
        clear hk10
        go_wp2_with (at_builtin; go_loud (refine wpl_nodes (us := [t]) rfl _ _ rfl rfl (ho.keepN (by (repeat' (first | with_reducible exact Keeps.refl _ _ | with_reducible refine Keeps.set ?_ (by simp <;> omega) _ | with_reducible refine Keeps.alloc ?_ _ | with_reducible refine Keeps.drewN ?_ _ | with_reducible refine Keeps.drew ?_)))) rfl (NewsAt.of_block (m := 1) (heap_new (by simp)) rfl hN.one) (hN.alone.keeps ((hkp.alloc _).alloc _) (fun _ _ h => h)) (fun g hg => hfar g hg) (by simp; omega) (by simp; omega) ?_; intro A2 c2 w2 hown2 hgrow2 hat2))
        have hkg : Keeps No (w.alloc ndBox) w2 := (ho.keepN (by (repeat' (first | with_reducible exact Keeps.refl _ _ | with_reducible refine Keeps.set ?_ (by simp <;> omega) _ | with_reducible refine Keeps.alloc ?_ _ | with_reducible refine Keeps.drewN ?_ _ | with_reducible refine Keeps.drew ?_)))).keeps (by simp) ((hkb.alloc _).alloc _) hgrow2
        go_roundg (gk - 1)
        case measure => omega
        case rel =>
          refine ⟨k + 1, p + q, G ++ (Fs ++ Fk ++ Fq), by omega, by go_num, by rw [hflat.out]; simpa only [List.length_append, List.length_cons, List.length_nil, Nat.zero_add] using hown2, ?_, hRn, hkg⟩
          rw [List.take_add, hF2]
          exact hS.append (List.Sublist.refl _)
    · obtain rfl : k = n := by omega
      have htk : ts.take k = ts := List.take_of_length_le (by rw [HN.out]; exact Nat.le_refl _)
      simp only [htk] at ho ⊢
      have hke : Hid (eitherN ts = .mk 10 [] (flatEither ts) 0 0 0 0 false) := by
        show eitherN ts = .mk 10 [] (flatEither ts) 0 0 0 0 false
        unfold eitherN
        split
        · rename_i x hx
          have := HN.out
          simp at this
          omega
        · rfl
      clear htk
      obtain ⟨xo, hown, hG, hdis⟩ := ho
      have hsl := SliceV.of_own hown
      generalize flatEither ts = fl at *
      have hol := hown.lt
      have hGF : ∀ g ∈ G, ¬ g = w.heap.size := fun g hg e => by
        have := hn.kind.1.lt (List.mem_of_mem_take (hS.subset hg))
        omega
      clear hv hn hR hown
      have hns : ∀ g, Value.ownBlock (.slice oA fl.length oc) = some g → ¬ g = w.heap.size := fun g hg e => by have := (hol g hg).1; omega
      go_wp2_with fail
      refine bodyPost_ret (v := ndV 10 nilS (.slice oA fl.length oc) 0 0 0 0 false) (by simp [results, Tryz.results39, go_sem, ndV, nilS, *]) rfl ⟨⟨_, G, (Value.ownBlock (.slice oA fl.length oc)).toList, rfl, ⟨_, rfl, ?_⟩, hS.trans (List.take_sublist _ _), ?_, ?_⟩, ?_⟩
      · rw [hke.out]
        exact NL.node (hsl.keeps (S := But w.heap.size) (by (repeat' (first | with_reducible exact Keeps.refl _ _ | with_reducible refine Keeps.set ?_ (by simp <;> omega) _ | with_reducible refine Keeps.alloc ?_ _ | with_reducible refine Keeps.drewN ?_ _ | with_reducible refine Keeps.drew ?_))) (fun g hg => hns g (by simpa using hg))) (hG.keeps (S := But w.heap.size) (by (repeat' (first | with_reducible exact Keeps.refl _ _ | with_reducible refine Keeps.set ?_ (by simp <;> omega) _ | with_reducible refine Keeps.alloc ?_ _ | with_reducible refine Keeps.drewN ?_ _ | with_reducible refine Keeps.drew ?_))) hGF) 10
      · intro x hx; have := (hol x (by simpa using hx)).1; omega
      · cases oA <;> simp [Value.ownBlock]
      · (repeat' (first | with_reducible exact hkp | with_reducible refine Keeps.set ?_ (by simp <;> omega) _ | with_reducible refine Keeps.alloc ?_ _ | with_reducible refine Keeps.drewN ?_ _ | with_reducible refine Keeps.drew ?_))

end Th
end Go.Proofs

namespace Go.Proofs
namespace Th
open Go.RowKit

/-- A node that comes of some: a block more at most. -/
def Outs (w : World) (t : Nd) (F : List Nat) (e : Ending) (w' : World) : Prop :=
  (∃ v' g F', e = .returned v' ∧ NdV w' v' t (g ++ F') ∧ F'.Sublist F ∧ (∀ x ∈ g, w.heap.size ≤ x) ∧ g.length ≤ 1) ∧ Keeps No w w'

theorem either_calls {w : World} {v : Value} {ts : List Nd} {xs : List Value} {Fl F : List Nat} (hv : SliceV w 27 8 v ts.length xs Fl) (hn : NodesRep w xs ts F) (h1 : 0 < ts.length) (hc : countNs ts ≤ 1000) :
    Calls Tryz.prog 39 #[v] w (Outs w (eitherN ts) F) := by
  by_cases h : ts.length = 1
  · refine (either_one hv hn h).mono ?_
    rintro e w' ⟨⟨v', F', rfl, hN, hS⟩, hk⟩
    exact ⟨⟨v', [], F', rfl, hN, hS, by simp, by simp⟩, hk⟩
  · refine (either_many hv hn (by omega) hc).mono ?_
    rintro e w' ⟨⟨v', F', g, rfl, hN, hS, hg, hl⟩, hk⟩
    exact ⟨⟨v', g, F', rfl, hN, hS, hg, hl⟩, hk⟩

theorem flatRow_take {ts : List Nd} {k : Nat} (hk : k < ts.length) : flatRow (ts.take (k + 1)) = flatRow (ts.take k) ++ (if ts[k].kind = 1 then [] else if ts[k].kind = 9 then ts[k].kids else [ts[k]]) := by
  unfold flatRow
  rw [List.take_succ_eq_append_getElem hk, List.flatMap_append, List.flatMap_singleton]

set_option maxRecDepth 100000 in
set_option maxHeartbeats 4000000 in
theorem row_calls {w : World} {v : Value} {ts : List Nd} {xs : List Value} {Fl F : List Nat} (hv : SliceV w 27 8 v ts.length xs Fl) (hn : NodesRep w xs ts F) (hc : countNs ts ≤ 1000) :
    Calls Tryz.prog 50 #[v] w (Outs w (rowN ts) F) := by
  obtain ⟨A, c, rfl⟩ := hv.slice
  have hlen := length_le_count ts
  generalize hnn : ts.length = n at *
  have HN := hid hnn
  clear hnn
  go_enter Tryz.func50, Tryz.ntmps50
  go_wp2
  go_loopg [3, 8] n (fun gk v i wr => ∃ (k p : Nat) (G : List Nat), gk + k = n ∧ i = .int .i64 k ∧ NL wr (w.heap.size + 1) v (flatRow (ts.take k)) G ∧ G.Sublist (F.take p) ∧
    NodesRep w (xs.drop (k * 8)) (ts.drop k) (F.drop p) ∧ Keeps No (w.alloc ndBox) wr)
  case atStart => exact ⟨0, 0, [], rfl, rfl, NL.nil _ _, by simp, by simpa using hn, by (repeat' (first | with_reducible exact Keeps.refl _ _ | with_reducible refine Keeps.set ?_ (by simp <;> omega) _ | with_reducible refine Keeps.alloc ?_ _ | with_reducible refine Keeps.drewN ?_ _ | with_reducible refine Keeps.drew ?_))⟩
  case round =>
    obtain ⟨k, p, G, hk, rfl, ho, hS, hR, hkb⟩ := hrel
    have hkp : Keeps No w wr := Keeps.trans (by (repeat' (first | with_reducible exact Keeps.refl _ _ | with_reducible refine Keeps.set ?_ (by simp <;> omega) _ | with_reducible refine Keeps.alloc ?_ _ | with_reducible refine Keeps.drewN ?_ _ | with_reducible refine Keeps.drew ?_))) hkb
    have hws : w.heap.size + 1 ≤ wr.heap.size := by have := hkb.size; simp at this; omega
    have c0_hkb := fun o => hkb.cell (b := w.heap.size) (o := o) (by first | omega | (simp; done) | (simp; omega)) (by first | omega | (simp; done) | (simp; omega)); have z0_hkb := fun o => hkb.frozen (b := w.heap.size) (o := o) (by first | omega | (simp; done) | (simp; omega)) (by first | omega | (simp; done) | (simp; omega))
    obtain ⟨oA, oc, rfl⟩ := ho.slice
    by_cases hlt : k < n
    · have hkl : k < ts.length := by rw [HN.out]; exact hlt
      have hflat := hid (flatRow_take hkl)
      have hcnt : countNs (flatRow (ts.take k)) + countN ts[k] ≤ 1000 := by
        have h1 := flatRow_count (ts.take k)
        have h2 : countNs ts = countNs (ts.take k) + (countN ts[k] + countNs (ts.drop (k + 1))) := by
          conv => lhs; rw [← List.take_append_drop k ts, countNs_append, List.drop_eq_getElem_cons hkl]
          rfl
        omega
      have hfl0 := length_le_count (flatRow (ts.take k))
      rw [List.drop_eq_getElem_cons hkl] at hR
      have hcell : ∃ g cap, (Value.slice A n c) = .slice (some ⟨g, 0, none⟩) n cap ∧ Fl = [g] ∧ n ≤ cap ∧ cap ≤ maxLen ∧ g < w.heap.size ∧ ∀ i (_ : i < 8), w.cell? ⟨g, k * 8 + i, none⟩ = xs[k * 8 + i]? := hv.cells hlt
      obtain ⟨g, cap, hA, _, hcap, hmax, hg, hce⟩ := hcell
      injection hA with hA _ hcc
      subst hA hcc
      generalize ts[k] = t at *
      obtain ⟨sA, sn, sc, kA, kc, ks, Fs, Fk, Fq, q, hN, hK, hQ, hF2, hR2, hx8⟩ := hR.head
      have hce2 : ∀ i (_ : i < 8), wr.cell? ⟨g, k * 8 + i, none⟩ = ([.int .i64 t.kind, .slice sA sn sc, .slice kA t.kids.length kc, .int .i64 t.number, .int .i64 t.least, .int .i64 t.most, .int .i64 t.way, .bool t.fold] : List Value)[i]? := fun i hi => by
        rw [hkp.cell hg id, hce i hi, ← hx8, List.getElem?_take_of_lt hi, List.getElem?_drop]
      have c0 := hce2 0 (by omega); have c1 := hce2 1 (by omega); have c2 := hce2 2 (by omega); have c3 := hce2 3 (by omega)
      have c4 := hce2 4 (by omega); have c5 := hce2 5 (by omega); have c6 := hce2 6 (by omega); have c7 := hce2 7 (by omega)
      simp only [Nat.add_zero, List.getElem?_cons_zero, List.getElem?_cons_succ] at c0 c1 c2 c3 c4 c5 c6 c7
      have hkids := length_le_count t.kids
      have hct := countN_kids t
      have hfar : ∀ x ∈ Fs ++ Fk ++ Fq, Value.ownBlock (.slice oA (flatRow (ts.take k)).length oc) ≠ some x := fun x hx e => by have := (ho.lt x e).1; have := hN.kind.1.lt hx; omega
      have hRn : NodesRep w (xs.drop ((k + 1) * 8)) (ts.drop (k + 1)) (F.drop (p + q)) := by
        have e1 : xs.drop ((k + 1) * 8) = (xs.drop (k * 8)).drop 8 := by rw [List.drop_drop]; congr 1; omega
        have e2 : F.drop (p + q) = (F.drop p).drop q := by rw [List.drop_drop]
        rw [e1, e2]; exact hR2
      generalize flatRow (ts.take k) = fl at *
      clear hv hn hce hce2 hR hcap hR2
      by_cases hk1 : t.kind = 1
      · have hk1' : (t.kind == 1) = true := by simpa using hk1
        rw [if_pos hk1, List.append_nil] at hflat
        clear hk1
        go_wp2_with fail
        have hkg : Keeps No (w.alloc ndBox) (wr.alloc (.cells #[.int .i64 t.kind, .slice sA sn sc, .slice kA t.kids.length kc, .int .i64 t.number, .int .i64 t.least, .int .i64 t.most, .int .i64 t.way, .bool t.fold] 27)) := hkb.alloc _
        go_roundg (gk - 1)
        case measure => omega
        case rel =>
          refine ⟨k + 1, p + q, G, by omega, by go_num, by rw [hflat.out]; exact ho.keepN ((Keeps.refl _ _).alloc _), ?_, hRn, hkg⟩
          rw [List.take_add]
          exact hS.trans (List.sublist_append_left _ _)
      have hk1' : (t.kind == 1) = false := by simpa using hk1
      rw [if_neg hk1] at hflat
      clear hk1
      by_cases hk9 : t.kind = 9
      · have hk9' : (t.kind == 9) = true := by simpa using hk9
        rw [if_pos hk9] at hflat
        clear hk9
        go_wp2_with (at_builtin; go_loud (refine wpl_nodes rfl _ _ rfl rfl (ho.keepN (by (repeat' (first | with_reducible exact Keeps.refl _ _ | with_reducible refine Keeps.set ?_ (by simp <;> omega) _ | with_reducible refine Keeps.alloc ?_ _ | with_reducible refine Keeps.drewN ?_ _ | with_reducible refine Keeps.drew ?_)))) rfl ((hK.keep (fun g hg => (hkp.alloc _).block g (hN.kind.1.lt (by simp [hg])) id)).newsAt (hQ.one)) (hQ.keeps (hkp.alloc _) (fun _ _ h => h)) (fun g hg => hfar g (by simp [hg])) (by omega) (by simp; omega) ?_; intro A2 c2 w2 hown2 hgrow2 hat2))
        have hkg : Keeps No (w.alloc ndBox) w2 := (ho.keepN (by (repeat' (first | with_reducible exact Keeps.refl _ _ | with_reducible refine Keeps.set ?_ (by simp <;> omega) _ | with_reducible refine Keeps.alloc ?_ _ | with_reducible refine Keeps.drewN ?_ _ | with_reducible refine Keeps.drew ?_)))).keeps (by simp) (hkb.alloc _) hgrow2
        go_roundg (gk - 1)
        case measure => omega
        case rel =>
          refine ⟨k + 1, p + q, G ++ Fq, by omega, by go_num, by rw [hflat.out]; simpa only [List.length_append, List.length_cons, List.length_nil, Nat.zero_add] using hown2, ?_, hRn, hkg⟩
          rw [List.take_add, hF2]
          exact hS.append (List.sublist_append_right _ _)
      · have hk9' : (t.kind == 9) = false := by simpa using hk9
        rw [if_neg hk9] at hflat
        clear hk9
        go_wp2_with (at_builtin; go_loud (refine wpl_nodes (us := [t]) rfl _ _ rfl rfl (ho.keepN (by (repeat' (first | with_reducible exact Keeps.refl _ _ | with_reducible refine Keeps.set ?_ (by simp <;> omega) _ | with_reducible refine Keeps.alloc ?_ _ | with_reducible refine Keeps.drewN ?_ _ | with_reducible refine Keeps.drew ?_)))) rfl (NewsAt.of_block (m := 1) (heap_new (by simp)) rfl hN.one) (hN.alone.keeps ((hkp.alloc _).alloc _) (fun _ _ h => h)) (fun g hg => hfar g hg) (by simp; omega) (by simp; omega) ?_; intro A2 c2 w2 hown2 hgrow2 hat2))
        have hkg : Keeps No (w.alloc ndBox) w2 := (ho.keepN (by (repeat' (first | with_reducible exact Keeps.refl _ _ | with_reducible refine Keeps.set ?_ (by simp <;> omega) _ | with_reducible refine Keeps.alloc ?_ _ | with_reducible refine Keeps.drewN ?_ _ | with_reducible refine Keeps.drew ?_)))).keeps (by simp) ((hkb.alloc _).alloc _) hgrow2
        go_roundg (gk - 1)
        case measure => omega
        case rel =>
          refine ⟨k + 1, p + q, G ++ (Fs ++ Fk ++ Fq), by omega, by go_num, by rw [hflat.out]; simpa only [List.length_append, List.length_cons, List.length_nil, Nat.zero_add] using hown2, ?_, hRn, hkg⟩
          rw [List.take_add, hF2]
          exact hS.append (List.Sublist.refl _)
    · obtain rfl : k = n := by omega
      have htk : ts.take k = ts := List.take_of_length_le (by rw [HN.out]; exact Nat.le_refl _)
      simp only [htk] at ho ⊢
      clear htk
      have hGF : ∀ g ∈ G, ¬ g = w.heap.size := fun g hg e => by
        have := hn.kind.1.lt (List.mem_of_mem_take (hS.subset hg))
        omega
      have hlf : (flatRow ts).length ≤ 1000 := by have := length_le_count (flatRow ts); have := flatRow_count ts; omega
      have hGS : G.Sublist F := hS.trans (List.take_sublist _ _)
      have hRow : Hid (rowN ts = rowN ts) := hid rfl
      have hol : ∀ g, Value.ownBlock (.slice oA (flatRow ts).length oc) = some g → w.heap.size + 1 ≤ g ∧ g < wr.heap.size := ho.lt
      have hr0 : (flatRow ts).length = 0 → rowN ts = emptyN := fun h => by
        unfold rowN; rw [List.length_eq_zero_iff.1 h]
      have hr1 : ∀ x, flatRow ts = [x] → rowN ts = x := fun x h => by unfold rowN; rw [h]
      have hr2 : 2 ≤ (flatRow ts).length → rowN ts = .mk 9 [] (flatRow ts) 0 0 0 0 false := fun h => by
        unfold rowN
        match flatRow ts, h with
        | x :: y :: l, _ => rfl
      generalize rowN ts = rn at *
      generalize flatRow ts = fl at *
      obtain ⟨xo, hown, hG, hdis⟩ := ho
      have hsl := SliceV.of_own hown
      clear hv hn hR hown hdis hRow
      have hns : ∀ g, Value.ownBlock (.slice oA fl.length oc) = some g → ¬ g = w.heap.size := fun g hg e => by have := (hol g hg).1; omega
      by_cases h0 : fl.length = 0
      · have hr := hid (hr0 h0)
        clear hr0 hr1 hr2
        have hz : ((fl.length : Int) == 0) = true := by simp [h0]
        clear h0
        go_wp2_with fail
        refine (empty_calls _).mono ?_
        rintro e w1 ⟨rfl, hk1⟩
        have c0_hk1 := fun o => hk1.cell (b := w.heap.size) (o := o) (by first | omega | (simp; done) | (simp; omega)) (by first | omega | (simp; done) | (simp; omega)); have z0_hk1 := fun o => hk1.frozen (b := w.heap.size) (o := o) (by first | omega | (simp; done) | (simp; omega)) (by first | omega | (simp; done) | (simp; omega))
        simp only [ndV, nilS]
        go_wp2_with fail
        refine bodyPost_ret (v := ndV 1 nilS nilS 0 0 0 0 false) (by simp [results, Tryz.results50, go_sem, ndV, nilS, *]) rfl ⟨⟨_, [], [], rfl, ⟨_, rfl, ?_⟩, by simp, by simp, by simp⟩, ?_⟩
        · rw [hr.out]
          exact NL.node (SliceV.nil _ _ _) .nil 1
        · have hk2 : Keeps No w w1 := hkp.trans hk1
          (repeat' (first | with_reducible exact hk2 | with_reducible refine Keeps.set ?_ (by simp <;> omega) _ | with_reducible refine Keeps.alloc ?_ _ | with_reducible refine Keeps.drewN ?_ _ | with_reducible refine Keeps.drew ?_))
      by_cases h1 : fl.length = 1
      · obtain ⟨x, rfl⟩ : ∃ x, fl = [x] := by
          match fl, h1 with
          | [x], _ => exact ⟨x, rfl⟩
        have hr := hid (hr1 x rfl)
        clear hr0 hr1 hr2 h0 h1
        obtain ⟨g, cap, sA, sn, sc, kA, kc, ks, Fs, Fk, Fq, hA, hcap, hmax, hg, c0, c1, c2, c3, c4, c5, c6, c7, hN, _, _, F1, F3, hF, _⟩ := nodes_at hsl hG (j := 0) (by simp)
        injection hA with hA _ hcc
        subst hA hcc
        have hgn : ¬ g = w.heap.size := hns g rfl
        simp only [Nat.zero_mul, Nat.zero_add, List.getElem_cons_zero, List.length_cons, List.length_nil] at c0 c1 c2 c3 c4 c5 c6 c7 hN hcap
        have hNk : ∀ g ∈ Fs ++ Fk ++ Fq, ¬ g = w.heap.size := fun y hy => hGF y (by rw [hF]; exact List.mem_append_left _ (List.mem_append_right _ hy))
        go_wp2_with fail
        refine bodyPost_ret (v := .agg #[.int .i64 x.kind, .slice sA sn sc, .slice kA x.kids.length kc, .int .i64 x.number, .int .i64 x.least, .int .i64 x.most, .int .i64 x.way, .bool x.fold]) (by simp [results, Tryz.results50, go_sem, ndV, *]) rfl ⟨⟨_, [], Fs ++ Fk ++ Fq, rfl, ⟨_, rfl, ?_⟩, ?_, by simp, by simp⟩, ?_⟩
        · rw [hr.out]
          exact hN.keeps (S := But w.heap.size) (by (repeat' (first | with_reducible exact Keeps.refl _ _ | with_reducible refine Keeps.set ?_ (by simp <;> omega) _ | with_reducible refine Keeps.alloc ?_ _ | with_reducible refine Keeps.drewN ?_ _ | with_reducible refine Keeps.drew ?_))) hNk
        · refine List.Sublist.trans ?_ hGS
          rw [hF]
          exact (List.sublist_append_right _ _).trans (List.sublist_append_left _ _)
        · (repeat' (first | with_reducible exact hkp | with_reducible refine Keeps.set ?_ (by simp <;> omega) _ | with_reducible refine Keeps.alloc ?_ _ | with_reducible refine Keeps.drewN ?_ _ | with_reducible refine Keeps.drew ?_))
      · have hr := hid (hr2 (by omega))
        clear hr0 hr1 hr2
        have h0' : ((fl.length : Int) == 0) = false := beq_eq_false_iff_ne.2 (by omega)
        have h1' : ((fl.length : Int) == 1) = false := beq_eq_false_iff_ne.2 (by omega)
        clear h0 h1
        go_wp2_with fail
        refine bodyPost_ret (v := ndV 9 nilS (.slice oA fl.length oc) 0 0 0 0 false) (by simp [results, Tryz.results50, go_sem, ndV, nilS, *]) rfl ⟨⟨_, (Value.ownBlock (.slice oA fl.length oc)).toList, G, rfl, ⟨_, rfl, ?_⟩, hGS, ?_, ?_⟩, ?_⟩
        · rw [hr.out]
          exact NL.node (hsl.keeps (S := But w.heap.size) (by (repeat' (first | with_reducible exact Keeps.refl _ _ | with_reducible refine Keeps.set ?_ (by simp <;> omega) _ | with_reducible refine Keeps.alloc ?_ _ | with_reducible refine Keeps.drewN ?_ _ | with_reducible refine Keeps.drew ?_))) (fun g hg => hns g (by simpa using hg))) (hG.keeps (S := But w.heap.size) (by (repeat' (first | with_reducible exact Keeps.refl _ _ | with_reducible refine Keeps.set ?_ (by simp <;> omega) _ | with_reducible refine Keeps.alloc ?_ _ | with_reducible refine Keeps.drewN ?_ _ | with_reducible refine Keeps.drew ?_))) hGF) 9
        · intro x hx; have := (hol x (by simpa using hx)).1; omega
        · cases oA <;> simp [Value.ownBlock]
        · (repeat' (first | with_reducible exact hkp | with_reducible refine Keeps.set ?_ (by simp <;> omega) _ | with_reducible refine Keeps.alloc ?_ _ | with_reducible refine Keeps.drewN ?_ _ | with_reducible refine Keeps.drew ?_))

end Th
end Go.Proofs

namespace Go.Proofs
namespace Th
open Go.RowKit

/-- What stands in every block but P stands. -/
theorem Pq.far {w w' : World} {P : Nat} {d : Int} {A : Option Addr} {c : Nat} {L : List Int} {a : Nat} {σ : Pst} {v6 v7 : Value} (h : Pq w P d A c L a σ v6 v7)
    (hk : ∀ k, k ≠ P → w'.heap[k]? = w.heap[k]?) : Row P w' A (ints L) ∧ w'.ownsRow (P + 1) 44 2 v6 σ.names.length (nameCells σ.names) ∧ w'.ownsRow (P + 1) 81 3 v7 σ.agains.length (againCells σ.agains) := by
  refine ⟨?_, ownsRow_keep h.own6 (fun g hg => hk g ?_), ownsRow_keep h.own7 (fun g hg => hk g ?_)⟩
  · rcases h.row with h4 | ⟨ab, ao, e1, e2, e3⟩
    · exact .inl h4
    · exact .inr ⟨ab, ao, e1, e2, fun j v hj => (World.cell?_of_block (hk ab (by omega))).trans (e3 j v hj)⟩
  · have := (own_lt h.own6 g hg).1; omega
  · have := (own_lt h.own7 g hg).1; omega

theorem heap_far {w : World} {P o : Nat} {u : Value} : ∀ k, k ≠ P → (w.setCell ⟨P, o, none⟩ u).heap[k]? = w.heap[k]? := fun k hk => Below.heap_setCell _ _ _ _ hk
theorem cell_same {w : World} {P o : Nat} {u v : Value} (h : w.cell? ⟨P, o, none⟩ = some v) : (w.setCell ⟨P, o, none⟩ u).cell? ⟨P, o, none⟩ = some u := World.cell?_setCell_same _ _ _ h
theorem cell_other {w : World} {P o o' : Nat} {u : Value} {r : Option Value} (ho : o' ≠ o) (h : w.cell? ⟨P, o', none⟩ = r) : (w.setCell ⟨P, o, none⟩ u).cell? ⟨P, o', none⟩ = r := by
  rw [World.cell?_setCell_other _ _ _ _ (by simpa using ho)]; exact h

theorem PsAt.lt {w : World} {P : Nat} {d : Int} {L : List Int} {σ : Pst} {F : List Nat} (h : PsAt w P d L σ F) : P < w.heap.size := by
  obtain ⟨A, c, a, v6, v7, hq, _⟩ := h; exact hq.lt
theorem PsAt.lists {w : World} {P : Nat} {d : Int} {L : List Int} {σ : Pst} {F : List Nat} (h : PsAt w P d L σ F) : ∀ g ∈ F, P < g ∧ g < w.heap.size := by
  obtain ⟨A, c, a, v6, v7, hq, rfl⟩ := h
  intro g hg
  rcases List.mem_append.1 hg with hg | hg
  · obtain ⟨h1, cur, h2⟩ := own_lt hq.own6 g hg; exact ⟨h1, (Array.getElem?_eq_some_iff.1 h2).1⟩
  · obtain ⟨h1, cur, h2⟩ := own_lt hq.own7 g hg; exact ⟨h1, (Array.getElem?_eq_some_iff.1 h2).1⟩
theorem PsAt.keepN {w w' : World} {P : Nat} {d : Int} {L : List Int} {σ : Pst} {F : List Nat} (h : PsAt w P d L σ F) (hk : Keeps No w w') : PsAt w' P d L σ F := h.keep hk (fun _ _ h => h) (fun _ _ h => h)
/-- What is new to w is far. -/
theorem PsAt.keepNew {w w' : World} {P B : Nat} {d : Int} {L : List Int} {σ : Pst} {F : List Nat} (h : PsAt w P d L σ F) (hk : Keeps (fun k => B ≤ k) w w') (hB : w.heap.size ≤ B) : PsAt w' P d L σ F :=
  h.keep hk (fun k hkP e => by have := h.lt; omega) (fun g hg e => by have := (h.lists g hg).2; omega)

/-- The parser's facts for a walk. -/
theorem PsAt.facts {w : World} {P : Nat} {d : Int} {L : List Int} {σ : Pst} {F : List Nat} (h : PsAt w P d L σ F) :
    ∃ A c v6 v7, w.cell? ⟨P, 0, none⟩ = some (.int .i64 d) ∧ w.cell? ⟨P, 1, none⟩ = some (.slice A L.length c) ∧ w.cell? ⟨P, 2, none⟩ = some (.int .i64 (posOf L.length σ.s)) ∧ w.cell? ⟨P, 3, none⟩ = some (.bool σ.folded) ∧
      w.cell? ⟨P, 4, none⟩ = some (.int .i64 σ.deep) ∧ w.cell? ⟨P, 5, none⟩ = some (.int .i64 σ.groups) ∧ w.cell? ⟨P, 6, none⟩ = some v6 ∧ w.cell? ⟨P, 7, none⟩ = some v7 ∧ (∀ o, w.frozen? ⟨P, o, none⟩ = false) ∧
      w.ownsRow (P + 1) 44 2 v6 σ.names.length (nameCells σ.names) ∧ w.ownsRow (P + 1) 81 3 v7 σ.agains.length (againCells σ.agains) ∧ F = own v6 ++ own v7 ∧
      Row P w A (ints L) ∧ L.length ≤ c ∧ c ≤ 9223372036854775807 ∧ L.length ≤ 300 ∧ Points L ∧ (d = 1 ∨ d = 2 ∨ d = 3) ∧ σ.s = L.drop (L.length - σ.s.length) ∧ σ.s.length ≤ L.length ∧
      σ.deep ≤ 20 ∧ σ.groups ≤ 20 ∧ σ.names.length ≤ σ.groups ∧ σ.agains.length + σ.s.length ≤ L.length := by
  obtain ⟨A, c, a, v6, v7, hq, rfl⟩ := h
  have hp := hq.pos
  have hl : σ.s.length = L.length - a := by rw [hq.rest, List.length_drop]
  have hle := hq.le
  refine ⟨A, c, v6, v7, hq.c0, hq.c1, by rw [← hp]; exact hq.c2, hq.c3, hq.c4, hq.c5, hq.c6, hq.c7, hq.fz, hq.own6, hq.own7, rfl, hq.row, hq.cap, hq.big, hq.small, hq.pts, hq.dia, ?_, by omega, hq.deep, hq.groups, hq.names, hq.agains⟩
  have : L.length - σ.s.length = a := by omega
  rw [this]; exact hq.rest

/-- Its cells alone. -/
theorem PsAt.cells {w : World} {P : Nat} {d : Int} {L : List Int} {σ : Pst} {F : List Nat} (h : PsAt w P d L σ F) :
    ∃ A c v6 v7, w.cell? ⟨P, 0, none⟩ = some (.int .i64 d) ∧ w.cell? ⟨P, 1, none⟩ = some (.slice A L.length c) ∧ w.cell? ⟨P, 2, none⟩ = some (.int .i64 (posOf L.length σ.s)) ∧ w.cell? ⟨P, 3, none⟩ = some (.bool σ.folded) ∧
      w.cell? ⟨P, 4, none⟩ = some (.int .i64 σ.deep) ∧ w.cell? ⟨P, 5, none⟩ = some (.int .i64 σ.groups) ∧ w.cell? ⟨P, 6, none⟩ = some v6 ∧ w.cell? ⟨P, 7, none⟩ = some v7 ∧ ∀ o, w.frozen? ⟨P, o, none⟩ = false := by
  obtain ⟨A, c, v6, v7, h0, h1, h2, h3, h4, h5, h6, h7, h8, _⟩ := h.facts
  exact ⟨A, c, v6, v7, h0, h1, h2, h3, h4, h5, h6, h7, h8⟩

section
variable {w : World} {P : Nat} {d : Int} {L : List Int} {σ : Pst} {F : List Nat}

theorem PsAt.setAt (h : PsAt w P d L σ F) {s' : List Int} (hs : s' <:+ σ.s) : PsAt (w.setCell ⟨P, 2, none⟩ (.int .i64 (posOf L.length s'))) P d L { σ with s := s' } F := by
  obtain ⟨A, c, a, v6, v7, hq, rfl⟩ := h
  obtain ⟨f1, f2, f3⟩ := hq.far (w' := w.setCell ⟨P, 2, none⟩ (.int .i64 (posOf L.length s'))) heap_far
  have hsuf : s' <:+ L := hs.trans (by rw [hq.rest]; exact List.drop_suffix _ _)
  have hl := hsuf.length_le
  have hag := hq.agains
  have hl2 := hs.length_le
  refine ⟨A, c, L.length - s'.length, v6, v7, ⟨cell_other (by omega) hq.c0, cell_other (by omega) hq.c1, ?_, cell_other (by omega) hq.c3, cell_other (by omega) hq.c4, cell_other (by omega) hq.c5, cell_other (by omega) hq.c6, cell_other (by omega) hq.c7,
    fun o => by simpa using hq.fz o, f1, by omega, ?_, hq.cap, hq.big, hq.small, hq.pts, hq.dia, f2, f3, hq.deep, hq.groups, hq.names, by simp only; omega⟩, rfl⟩
  · rw [cell_same hq.c2, posOf]; congr 2; omega
  · exact List.suffix_iff_eq_drop.1 hsuf
theorem PsAt.setFolded (h : PsAt w P d L σ F) (f : Bool) : PsAt (w.setCell ⟨P, 3, none⟩ (.bool f)) P d L { σ with folded := f } F := by
  obtain ⟨A, c, a, v6, v7, hq, rfl⟩ := h
  obtain ⟨f1, f2, f3⟩ := hq.far (w' := w.setCell ⟨P, 3, none⟩ (.bool f)) heap_far
  exact ⟨A, c, a, v6, v7, ⟨cell_other (by omega) hq.c0, cell_other (by omega) hq.c1, cell_other (by omega) hq.c2, cell_same hq.c3, cell_other (by omega) hq.c4, cell_other (by omega) hq.c5, cell_other (by omega) hq.c6, cell_other (by omega) hq.c7,
    fun o => by simpa using hq.fz o, f1, hq.le, hq.rest, hq.cap, hq.big, hq.small, hq.pts, hq.dia, f2, f3, hq.deep, hq.groups, hq.names, hq.agains⟩, rfl⟩
theorem PsAt.setDeep (h : PsAt w P d L σ F) {m : Nat} (hm : m ≤ 20) : PsAt (w.setCell ⟨P, 4, none⟩ (.int .i64 (m : Int))) P d L { σ with deep := m } F := by
  obtain ⟨A, c, a, v6, v7, hq, rfl⟩ := h
  obtain ⟨f1, f2, f3⟩ := hq.far (w' := w.setCell ⟨P, 4, none⟩ (.int .i64 (m : Int))) heap_far
  exact ⟨A, c, a, v6, v7, ⟨cell_other (by omega) hq.c0, cell_other (by omega) hq.c1, cell_other (by omega) hq.c2, cell_other (by omega) hq.c3, cell_same hq.c4, cell_other (by omega) hq.c5, cell_other (by omega) hq.c6, cell_other (by omega) hq.c7,
    fun o => by simpa using hq.fz o, f1, hq.le, hq.rest, hq.cap, hq.big, hq.small, hq.pts, hq.dia, f2, f3, hm, hq.groups, hq.names, hq.agains⟩, rfl⟩
theorem PsAt.setGroups (h : PsAt w P d L σ F) {m : Nat} (hm : m ≤ 20) (hn : σ.groups ≤ m) : PsAt (w.setCell ⟨P, 5, none⟩ (.int .i64 (m : Int))) P d L { σ with groups := m } F := by
  obtain ⟨A, c, a, v6, v7, hq, rfl⟩ := h
  obtain ⟨f1, f2, f3⟩ := hq.far (w' := w.setCell ⟨P, 5, none⟩ (.int .i64 (m : Int))) heap_far
  have := hq.names
  exact ⟨A, c, a, v6, v7, ⟨cell_other (by omega) hq.c0, cell_other (by omega) hq.c1, cell_other (by omega) hq.c2, cell_other (by omega) hq.c3, cell_other (by omega) hq.c4, cell_same hq.c5, cell_other (by omega) hq.c6, cell_other (by omega) hq.c7,
    fun o => by simpa using hq.fz o, f1, hq.le, hq.rest, hq.cap, hq.big, hq.small, hq.pts, hq.dia, f2, f3, hq.deep, hm, by simp only; omega, hq.agains⟩, rfl⟩

theorem nameCells_append (l m : List (ByteArray × Int)) : nameCells (l ++ m) = nameCells l ++ nameCells m := by simp [nameCells]
theorem againCells_append (l m : List (Int × Int × ByteArray)) : againCells (l ++ m) = againCells l ++ againCells m := by simp [againCells]

/-- The blocks of the lists behind a step: old ones, or new ones. -/
def Grew (H : Nat) (F F' : List Nat) : Prop := ∀ g ∈ F', g ∈ F ∨ H ≤ g

theorem own_grew {v : Value} {A : Option Addr} {n c H : Nat} (h : Value.ownBlock (.slice A n c) = v.ownBlock ∨ Value.ownBlock (.slice A n c) = some H) : ∀ g ∈ own (.slice A n c), g ∈ own v ∨ H ≤ g := by
  intro g hg
  unfold own at *
  rcases h with h | h <;> rw [h] at hg
  · exact .inl hg
  · right; simp at hg; omega
theorem own_mem {v : Value} {g : Nat} : g ∈ own v ↔ v.ownBlock = some g := by simp [own]

/-- The two lists lie apart. -/
theorem Pq.apart {A : Option Addr} {c a : Nat} {v6 v7 : Value} (h : Pq w P d A c L a σ v6 v7) : ∀ g, v6.ownBlock = some g → v7.ownBlock ≠ some g := by
  intro g h6 h7
  obtain ⟨_, c1, e1⟩ := own_lt h.own6 g (own_mem.2 h6)
  obtain ⟨_, c2, e2⟩ := own_lt h.own7 g (own_mem.2 h7)
  rw [e1] at e2
  injection e2 with e2
  injection e2 with _ e2
  exact absurd e2 (by decide)

/-- A name more: behind the append, its slice is laid into the parser. -/
theorem PsAt.addName (h : PsAt w P d L σ F) (hg : σ.names.length < σ.groups) (t : ByteArray) (m : Int) {A : Option Addr} {c : Nat} {w1 : World} {v6 : Value} (h6 : w.cell? ⟨P, 6, none⟩ = some v6)
    (hp : AppPost (P + 1) 44 2 v6 σ.names.length 1 (nameCells σ.names) [.string t, .int .i64 m] w A c w1) :
    ∃ F', PsAt (w1.setCell ⟨P, 6, none⟩ (.slice A (σ.names.length + 1) c)) P d L { σ with names := σ.names ++ [(t, m)] } F' ∧ Grew w.heap.size F F' ∧
      Keeps (fun k => k = P ∨ k ∈ F) w (w1.setCell ⟨P, 6, none⟩ (.slice A (σ.names.length + 1) c)) := by
  obtain ⟨A0, c0, a, v6', v7, hq, rfl⟩ := h
  obtain rfl : v6' = v6 := by have := hq.c6; rw [h6] at this; injection this with this; exact this.symm
  obtain ⟨h1, h2, h3⟩ := hp
  have hd' := hq.apart
  have hPne : ∀ g, v6'.ownBlock = some g → P < g := fun g hg => (hq.own6.lt g hg).1
  have hcell : ∀ o, w1.cell? ⟨P, o, none⟩ = w.cell? ⟨P, o, none⟩ := fun o => h2.cell hq.lt (fun e => by have := hPne P e; omega)
  have hfz : ∀ o, w1.frozen? ⟨P, o, none⟩ = w.frozen? ⟨P, o, none⟩ := fun o => h2.frozen hq.lt (fun e => by have := hPne P e; omega)
  have hlen : (σ.names ++ [(t, m)]).length = σ.names.length + 1 := by simp
  have hnc : nameCells (σ.names ++ [(t, m)]) = nameCells σ.names ++ [.string t, .int .i64 m] := by rw [nameCells_append]; rfl
  have h7 : w1.ownsRow (P + 1) 81 3 v7 σ.agains.length (againCells σ.agains) := ownsRow_keep hq.own7 fun g hg => by
    obtain ⟨_, cur, hc⟩ := own_lt hq.own7 g hg
    exact h2.block g (Array.getElem?_eq_some_iff.1 hc).1 (fun e => hd' g e (own_mem.1 hg))
  refine ⟨own (.slice A (σ.names.length + 1) c) ++ own v7, ⟨A0, c0, a, _, v7, ⟨?_, ?_, ?_, ?_, ?_, ?_, ?_, ?_, ?_, ?_, hq.le, hq.rest, hq.cap, hq.big, hq.small, hq.pts, hq.dia, ?_, ?_, hq.deep, hq.groups, by simp only [hlen]; omega, hq.agains⟩, rfl⟩, ?_, ?_⟩
  · exact cell_other (by omega) ((hcell _).trans hq.c0)
  · exact cell_other (by omega) ((hcell _).trans hq.c1)
  · exact cell_other (by omega) ((hcell _).trans hq.c2)
  · exact cell_other (by omega) ((hcell _).trans hq.c3)
  · exact cell_other (by omega) ((hcell _).trans hq.c4)
  · exact cell_other (by omega) ((hcell _).trans hq.c5)
  · exact cell_same ((hcell _).trans hq.c6)
  · exact cell_other (by omega) ((hcell _).trans hq.c7)
  · intro o; have := hq.fz o; rw [← hfz o] at this; simpa using this
  · rcases hq.row with h4 | ⟨ab, ao, e1, e2, e3⟩
    · exact .inl h4
    · refine .inr ⟨ab, ao, e1, e2, fun j v hj => ?_⟩
      rw [World.cell?_setCell_other _ _ _ _ (by simp <;> omega), h2.cell (by have := hq.lt; omega) (fun e => by have := hPne ab e; omega)]
      exact e3 j v hj
  · simp only [hlen, hnc]
    exact ownsRow_keep h1 fun g hg => heap_far g (by have := (own_lt h1 g hg).1; omega)
  · exact ownsRow_keep h7 fun g hg => heap_far g (by have := (own_lt h7 g hg).1; omega)
  · intro g hg
    rcases List.mem_append.1 hg with hg | hg
    · rcases own_grew h3 g hg with hg | hg
      · exact .inl (List.mem_append_left _ hg)
      · exact .inr hg
    · exact .inl (List.mem_append_right _ hg)
  · exact (h2.mono (fun k e => .inr (List.mem_append_left _ (own_mem.2 e)))).set (fun _ => .inl rfl) _

/-- A group more that is spoken of. -/
theorem PsAt.addAgain (h : PsAt w P d L σ F) (hg : σ.agains.length + 1 + σ.s.length ≤ L.length) (f m : Int) (t : ByteArray) {A : Option Addr} {c : Nat} {w1 : World} {v7 : Value} (h7 : w.cell? ⟨P, 7, none⟩ = some v7)
    (hp : AppPost (P + 1) 81 3 v7 σ.agains.length 1 (againCells σ.agains) [.int .i64 f, .int .i64 m, .string t] w A c w1) :
    ∃ F', PsAt (w1.setCell ⟨P, 7, none⟩ (.slice A (σ.agains.length + 1) c)) P d L { σ with agains := σ.agains ++ [(f, m, t)] } F' ∧ Grew w.heap.size F F' ∧
      Keeps (fun k => k = P ∨ k ∈ F) w (w1.setCell ⟨P, 7, none⟩ (.slice A (σ.agains.length + 1) c)) := by
  obtain ⟨A0, c0, a, v6, v7', hq, rfl⟩ := h
  obtain rfl : v7' = v7 := by have := hq.c7; rw [h7] at this; injection this with this; exact this.symm
  obtain ⟨h1, h2, h3⟩ := hp
  have hd' := fun g h => fun h' => hq.apart g h' h
  have hPne : ∀ g, v7'.ownBlock = some g → P < g := fun g hg => (hq.own7.lt g hg).1
  have hcell : ∀ o, w1.cell? ⟨P, o, none⟩ = w.cell? ⟨P, o, none⟩ := fun o => h2.cell hq.lt (fun e => by have := hPne P e; omega)
  have hfz : ∀ o, w1.frozen? ⟨P, o, none⟩ = w.frozen? ⟨P, o, none⟩ := fun o => h2.frozen hq.lt (fun e => by have := hPne P e; omega)
  have hlen : (σ.agains ++ [(f, m, t)]).length = σ.agains.length + 1 := by simp
  have hnc : againCells (σ.agains ++ [(f, m, t)]) = againCells σ.agains ++ [.int .i64 f, .int .i64 m, .string t] := by rw [againCells_append]; rfl
  have h6 : w1.ownsRow (P + 1) 44 2 v6 σ.names.length (nameCells σ.names) := ownsRow_keep hq.own6 fun g hg => by
    obtain ⟨_, cur, hc⟩ := own_lt hq.own6 g hg
    exact h2.block g (Array.getElem?_eq_some_iff.1 hc).1 (fun e => hd' g e (own_mem.1 hg))
  refine ⟨own v6 ++ own (.slice A (σ.agains.length + 1) c), ⟨A0, c0, a, v6, _, ⟨?_, ?_, ?_, ?_, ?_, ?_, ?_, ?_, ?_, ?_, hq.le, hq.rest, hq.cap, hq.big, hq.small, hq.pts, hq.dia, ?_, ?_, hq.deep, hq.groups, hq.names, by simp only [hlen]; omega⟩, rfl⟩, ?_, ?_⟩
  · exact cell_other (by omega) ((hcell _).trans hq.c0)
  · exact cell_other (by omega) ((hcell _).trans hq.c1)
  · exact cell_other (by omega) ((hcell _).trans hq.c2)
  · exact cell_other (by omega) ((hcell _).trans hq.c3)
  · exact cell_other (by omega) ((hcell _).trans hq.c4)
  · exact cell_other (by omega) ((hcell _).trans hq.c5)
  · exact cell_other (by omega) ((hcell _).trans hq.c6)
  · exact cell_same ((hcell _).trans hq.c7)
  · intro o; have := hq.fz o; rw [← hfz o] at this; simpa using this
  · rcases hq.row with h4 | ⟨ab, ao, e1, e2, e3⟩
    · exact .inl h4
    · refine .inr ⟨ab, ao, e1, e2, fun j v hj => ?_⟩
      rw [World.cell?_setCell_other _ _ _ _ (by simp <;> omega), h2.cell (by have := hq.lt; omega) (fun e => by have := hPne ab e; omega)]
      exact e3 j v hj
  · exact ownsRow_keep h6 fun g hg => heap_far g (by have := (own_lt h6 g hg).1; omega)
  · simp only [hlen, hnc]
    exact ownsRow_keep h1 fun g hg => heap_far g (by have := (own_lt h1 g hg).1; omega)
  · intro g hg
    rcases List.mem_append.1 hg with hg | hg
    · exact .inl (List.mem_append_left _ hg)
    · rcases own_grew h3 g hg with hg | hg
      · exact .inl (List.mem_append_right _ hg)
      · exact .inr hg
  · exact (h2.mono (fun k e => .inr (List.mem_append_right _ (own_mem.2 e)))).set (fun _ => .inl rfl) _

end

end Th
end Go.Proofs
