/- Several slices of the call's own at once. General: no program in sight. -/
import Derived.Test.YtnmaehdklmgfmaaLmOwn
namespace Go.Lm
open Go Go.RowKit

/-- Two slices do not share a block. -/
def Disj (v u : Value) : Prop := ∀ k, v.ownBlock = some k → u.ownBlock ≠ some k
theorem Disj.symm {v u : Value} (h : Disj v u) : Disj u v := fun k h1 h2 => h k h2 h1
/-- Where the result of an append lies: where it lay, or behind all that was. -/
theorem append_where {P : Program} {w : World} (base : Nat) (t ty e : TypeId) (i : TypeInfo) (z : Value) (size bytes : Nat) (ht : P.underlying t = some (.slice e)) (hi : P.info? e = some i) (hz : i.zero = some z)
    (hsize : i.size = size) (hby : i.bytes = bytes) (v : Value) (n : Nat) (xs : List Value) (hown : w.ownsRow base e size v n xs)
    (a : Addr) (c : Nat) (news : List Value) (hl : news.length = size) (hnews : ∀ j u, news[j]? = some u → w.cell? (a.add j) = some u) (h1 : ∀ u ∈ news, u.oneCell' = true)
    (h63 : n + 1 ≤ maxLen) (hbytes : (n + 1) * bytes ≤ 140737488355328) {v' : Value} {w' : World} (hr : (Builtin.append_ #[t, t] ty #[v, .slice (some a) 1 c]).run P w = .ok v' w') :
    ∀ k, v'.ownBlock = some k → v.ownBlock = some k ∨ w.heap.size ≤ k := by
  subst hsize
  subst hby
  have hl' : news.length = 1 * i.size := by rw [hl, Nat.one_mul]
  have hsmall : n + 1 ≤ 9223372036854775807 := by simp only [maxLen] at h63; omega
  rcases hown.2 with ⟨rfl, rfl⟩ | ⟨g, cap, cur, rfl, hbg, hg, hnc, hcm, hcs, htake⟩
  · rw [run_append_nil (P := P) w t ty e i z ht hi hz a 1 c news hl' hnews (by omega) (by omega) (by omega)] at hr
    cases hr
    intro k hk
    have : w.heap.size = k := by simpa [Value.ownBlock] using hk
    exact .inr (by omega)
  · by_cases hroom : n + 1 ≤ cap
    · have hfit : n * i.size + news.length ≤ cur.size := by rw [hl', hcs, ← Nat.add_mul]; exact Nat.mul_le_mul_right _ hroom
      rw [run_append_room (P := P) w t ty e i ht hi g n cap cur hg a 1 c news hl' hnews h1 hroom hfit] at hr
      cases hr
      exact fun k hk => .inl hk
    · have holds : ∀ j u, xs[j]? = some u → w.cell? ((⟨g, 0, none⟩ : Addr).add j) = some u := hown.cells (g := g) rfl
      rw [run_append_grow (P := P) w t ty e i z ht hi hz ⟨g, 0, none⟩ n cap xs hown.1 holds a 1 c news hl' hnews (by omega) (by omega) (growslice_fits (by omega) hbytes)] at hr
      cases hr
      intro k hk
      have : w.heap.size = k := by simpa [Value.ownBlock] using hk
      exact .inr (by omega)
theorem OwnsL.grown {α : Type} [GoRep α] {g w w' : World} {base : Nat} {e : TypeId} {u v : Value} {ys : List α} (h : OwnsL g w base e u ys) (hd : Disj v u) (hg : w.grownBy w' v.ownBlock) : OwnsL g w' base e u ys :=
  h.keep (Mono.refl g) fun k hk => hg.block k (h.lt k hk).2 fun e => hd k e.symm hk
theorem Disj.grown {α : Type} [GoRep α] {g w : World} {base : Nat} {e : TypeId} {u v v' : Value} {ys : List α} (hd : Disj v u) (h : OwnsL g w base e u ys) (hw : ∀ k, v'.ownBlock = some k → v.ownBlock = some k ∨ w.heap.size ≤ k) : Disj v' u := fun k hk hu => by
  rcases hw k hk with h1 | h1
  · exact hd k h1 hu
  · have := (h.lt k hu).2; omega
theorem Disj.fresh {α : Type} [GoRep α] {g w w' : World} {b base : Nat} {e : TypeId} {u : Value} {o : Obj} {ys : List α} (h : OwnsL g w base e u ys) (hn : New w b o w') : Disj u (.slice (some ⟨b, 0, none⟩) 0 0) := fun k hk hb => by
  have h1 := (h.lt k hk).2
  have h2 : b = k := by simpa [Value.ownBlock] using hb
  have h3 := hn.at_
  omega
section
variable {P : Program} {ops : Array Oper} {rest : List Oper} {o : Oper} {n : Nat} {s : AL} {Q : Exit → Act → World → Prop} {w : World}
/-- append of one element beside other slices of its own. -/
theorem S_append2 {α : Type} [GoRep α] {d : Nat} {x y : Operand} {t e : TypeId} {g : World} {base : Nat} {v : Value} {xs : List α} {b : Nat} {c : List Value} {a : α} {bytes : Nat} (hown : OwnsL g w base e v xs) (hb : Blk w b c.toArray e) (hr : GoRep.rel g c a)
    (ht : P.underlying t = some (.slice e)) (hi : (P.info? e).map (fun i => (i.size, i.bytes, i.zero.isSome)) = some (GoRep.size α, bytes, true)) (hz : ((P.info? e).bind (·.zero)).map (·.cells.size) = some (GoRep.size α)) (hpos : 0 < GoRep.size α) (h1 : c.all (·.oneCell') = true)
    (hlen : (xs.length + 1) * bytes ≤ 140737488355328) (hmax : xs.length + 1 ≤ 9223372036854775807) (hbase : base ≤ w.heap.size)
    (ho : o.op = .call { callee := .builtin .append, args := #[x, y], argTypes := #[t, t] }) (hx : ev s x = some v) (hy : ev s y = some (.slice (some ⟨b, 0, none⟩) 1 1)) (hw : wants ops s o = some true) (hd : o.dst = some d) (hn : Nat.blt d n = true)
    (k : ∀ v' w', OwnsL g w' base e v' (xs ++ [a]) → Below base w w' → w.grownBy w' v.ownBlock → (∀ k, v'.ownBlock = some k → v.ownBlock = some k ∨ w.heap.size ≤ k) → wpR P ops rest n ((d, v') :: s) Q w') : wpR P ops (o :: rest) n s Q w := by
  cases hq : P.info? e with
  | none => simp [hq] at hi
  | some i =>
    simp only [hq, Option.map_some, Option.some.injEq, Prod.mk.injEq, Option.bind_some] at hi hz
    obtain ⟨hs, hby, hzz⟩ := hi
    cases hz' : i.zero with
    | none => simp [hz'] at hzz
    | some z =>
      simp only [hz', Option.map_some, Option.some.injEq] at hz
      obtain ⟨cs, hrel, hrow⟩ := hown.ex
      have hcl := GoRep.len hr
      have hnw : ∀ j u, c[j]? = some u → w.cell? ((⟨b, 0, none⟩ : Addr).add j) = some u := fun j u hu => by rw [Addr.add_mid, hb.cell]; simpa using hu
      have hone : ∀ u ∈ c, u.oneCell' = true := fun u hu => List.all_eq_true.1 h1 u hu
      have h63 : xs.length + 1 ≤ maxLen := by unfold maxLen; omega
      obtain ⟨v', w', hrun, hown', hgrow, _⟩ := run_append_own (P := P) w base t o.type e i z (GoRep.size α) bytes ht hq hz' hs hby hz hpos v xs.length cs.flatten hrow ⟨b, 0, none⟩ 1 1 c (by rw [hcl, Nat.one_mul]) hnw hone h63 hlen hbase
      have hwhere := append_where (P := P) base t o.type e i z (GoRep.size α) bytes ht hq hz' hs hby v xs.length cs.flatten hrow ⟨b, 0, none⟩ 1 c hcl hnw hone h63 hlen hrun
      refine R_val (v := v') (w' := w') hw (by simp [knows, noSel, ho, Op.operands, Call.operands, hx, hy]) hd hn ?_ (k v' w' ⟨cs ++ [c], hrel.snoc hr, ?_⟩ ?_ hgrow hwhere)
      · simp [execOp, ho, resolve, invoke, builtin, rho, hx, hy, hrun]
      · have : (cs ++ [c]).flatten = cs.flatten ++ c := by simp
        rw [this]
        simpa using hown'
      · have hlt := hrow.lt
        exact (Below.refl base w).grown hgrow hbase fun k hk => (hlt k hk).1
end
end Go.Lm
