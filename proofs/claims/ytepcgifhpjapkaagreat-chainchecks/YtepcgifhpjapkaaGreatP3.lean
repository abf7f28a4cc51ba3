/-
  Contracts of functions and plain laws. No condition.
-/
import Derived.Test.YtepcgifhpjapkaaGreatP2
import Derived.Test.YtepcgifhpjapkaaGreatP1
import Derived.Test.YtepcgifhpjapkaaGreatV3
import Derived.Test.YtepcgifhpjapkaaGreatV2
set_option linter.unusedSimpArgs false
set_option linter.unusedVariables false
set_option maxRecDepth 100000
set_option maxHeartbeats 8000000
namespace Go.Proofs.YtepcgifhpjapkaaGreat
open Go.V Go
open Tryz (prog)
structure EOk (f:Int) (k:Nat) (e:E):Prop where
  lsn:e.lsn = f + k
  ptx:0<=e.ptx/\e.ptx < e.lsn
  ref:0<=e.ref/\e.ref < e.lsn
  tx:(1<=e.tx/\(e.kind = 1\/e.kind = 2\/e.kind = 3\/e.kind = 4\/e.kind = 5))\/(e.tx = 0/\e.kind ≠ 1/\e.kind ≠ 2/\e.kind ≠ 3/\e.kind ≠ 4/\e.kind ≠ 5)
  sl:e.kind = 2->0<=e.c.sl
structure Wf (f:Int) (es:List E):Prop where
  f1:1<=f
  ok:∀ k,k < es.length->EOk f k (es.getD k E0)
theorem Wf.of {x:Lg} (h:lgB x = true):Wf x.f x.es:=by
  refine ⟨(QaC h).1,fun k hk=>?_⟩
  unfold lgB at h
  rw [Bool.and_eq_true,List.all_eq_true] at h
  have h2:=h.2 k (List.mem_range.2 hk)
  unfold lgC at h2
  rw [Bool.and_eq_true] at h2
  have h3:=of_decide_eq_true h2.1
  have h4:=h2.2
  generalize x.es.getD k E0 = e at *
  unfold E.okB bef at h4
  simp only [Bool.and_eq_true,decide_eq_true_eq] at h4
  obtain ⟨⟨⟨⟨_,a1⟩,_⟩,a2⟩,a3⟩:=h4
  refine ⟨h3,a1,a2,?_,?_⟩
  · unfold E.kindB txB at a3
    split at a3
    · simp at a3; omega
    split at a3
    · simp at a3; omega
    split at a3
    · simp at a3; omega
    split at a3
    · simp at a3; omega
    split at a3
    · simp at a3; omega
    · cases a3
  · intro hk
    unfold E.kindB at a3
    rw [if_neg (by omega),if_pos hk] at a3
    unfold Ch.okB at a3
    simp at a3
    omega
theorem QmD {es:List E} {i:Nat} {p:E->Bool}:exE es i p = true ↔ ∃ k,k < i/\p (es.getD k E0) = true:=by
  unfold exE
  rw [Bool.not_eq_true',List.all_eq_false]
  simp
theorem exE_iff' {es:List E} {i:Nat} {p:E->Bool}:exE es i p = false ↔ ∀ k,k < i->p (es.getD k E0) = false:=by
  rw [Bool.eq_false_iff,Ne,QmD]
  simp
theorem Qd9 (es:List E) (i:Nat) (n:Int):QjS es (i + 1) n = (QjS es i n || undp n (es.getD i E0)):=Qds _ _ _
def before (es:List E) (i:Nat):List E:=(List.range i).map fun k=>es.getD k E0
theorem QmK (es:List E) (i:Nat):before es (i + 1) = before es i ++ [es.getD i E0]:=by
  unfold before
  rw [List.range_succ,List.map_append]
  rfl
theorem QoT {es:List E} {i:Nat} {y:E}:y ∈ before es i ↔ ∃ k,k < i/\es.getD k E0 = y:=by
  unfold before
  simp
theorem Qje {f:Int} {es:List E} (W:Wf f es) {i:Nat} (hi:i<=es.length):(before es i).Pairwise fun a b=>a.lsn < b.lsn:=by
  unfold before
  rw [List.pairwise_map]
  refine List.Pairwise.imp_of_mem ?_ List.pairwise_lt_range
  intro a b ha hb h
  have ha:=List.mem_range.1 ha
  have hb:=List.mem_range.1 hb
  rw [(W.ok a (by omega)).lsn,(W.ok b (by omega)).lsn]
  omega
def QcH (es:List E) (i:Nat) (x:Int):List E:=(before es i).filter fun e=>decide (e.kind = 1) && (decide (e.tx = x) && !QjS es i e.lsn)
theorem mem_penL {es:List E} {i:Nat} {x:Int} {y:E}:y ∈ QcH es i x ↔ (∃ k,k < i/\es.getD k E0 = y)/\y.kind = 1/\y.tx = x/\QjS es i y.lsn = false:=by
  unfold QcH
  rw [List.mem_filter,QoT]
  simp
theorem QdT {f:Int} {es:List E} (W:Wf f es) {i:Nat} (hi:i<=es.length) (x:Int):(QcH es i x).Pairwise fun a b=>a.lsn < b.lsn:=(Qje W hi).filter _
theorem QuD {f:Int} {es:List E} (W:Wf f es) {i:Nat} (hi:i < es.length):QjS es i (f + i) = false:=by
  unfold QjS
  rw [exE_iff']
  intro k hk
  have h:=W.ok k (by omega)
  unfold undp
  have h1:=h.ref.2
  rw [h.lsn] at h1
  rw [Bool.and_eq_false_iff]
  exact .inr (decide_eq_false (by omega))
theorem Qe0 {f:Int} {es:List E} (W:Wf f es) (x:Int):∀ i,i<=es.length->(Qag es x i = 0/\∀ k,k < i->(es.getD k E0).tx ≠ x)\/(f<=Qag es x i/\∃ k,k < i/\(es.getD k E0).tx = x)
  | 0,_=>.inl ⟨rfl,fun k hk=>by omega⟩
  | i + 1,hi=>by
    rw [Qag]
    have h:=(W.ok i (by omega)).lsn
    by_cases hx:(es.getD i E0).tx = x
    · rw [if_pos hx]
      exact .inr ⟨by omega,i,by omega,hx⟩
    · rw [if_neg hx]
      rcases Qe0 W x i (by omega) with ⟨h1,h2⟩ | ⟨h1,k,h2,h3⟩
      · refine .inl ⟨h1,fun k hk=>?_⟩
        by_cases hki:k = i
        · rw [hki]; exact hx
        · exact h2 k (by omega)
      · exact .inr ⟨h1,k,by omega,h3⟩
theorem Qwo (L:List (Int × Int)) (a v b:Int):Qlv (QpP L a v) b = if a = b then some v else Qlv L b:=by
  induction L with
  | nil=>simp [QpP,Qlv]
  | cons q r ih =>
    obtain ⟨k,x⟩:=q
    unfold QpP
    by_cases h:k = a
    · subst h
      simp only [if_pos,Qlv]
      split<;>simp
    · rw [if_neg h]
      simp only [Qlv]
      rw [ih]
      by_cases h2:k = b
      · subst h2
        rw [if_pos rfl,if_neg (fun e=>h e.symm),if_pos rfl]
      · rw [if_neg h2,if_neg h2]
theorem QvX (U:List Int) (a b:Int):b ∈ Qno U a ↔ b ∈ U\/b = a:=by
  unfold Qno
  split
  · constructor
    · exact .inl
    · rintro (h | rfl)
      · exact h
      · assumption
  · simp
theorem Qk5 (T:List Tr) (t:Tr) (x:Int):Qhv (Qop T t) x = if t.tx = x then some t else Qhv T x:=by
  unfold Qhv
  induction T with
  | nil=>simp [Qop,List.find?_cons]; split<;>simp_all
  | cons a r ih =>
    unfold Qop
    by_cases h:a.tx = t.tx
    · rw [if_pos h]
      simp only [List.find?_cons]
      rw [h]
      by_cases h2:t.tx = x
      · simp [h2]
      · simp [h2]
    · rw [if_neg h]
      simp only [List.find?_cons]
      rw [ih]
      by_cases h2:a.tx = x
      · subst h2
        simp [Ne.symm h]
      · simp [h2]
theorem Qi7 (e:E):∀ (P:List E),P.Pairwise (fun a b=>a.lsn < b.lsn)->P.drop (P.findIdx (Q3 e)) = P.filter (Q3 e)
  | [],_=>rfl
  | a :: r,h=>by
    rw [List.pairwise_cons] at h
    rw [List.findIdx_cons,List.filter_cons]
    cases ha:Q3 e a
    · simpa using Qi7 e r h.2
    · have:r.filter (Q3 e) = r:=List.filter_eq_self.2 fun b hb=>by
        have:=h.1 b hb
        unfold Q3 at ha |-
        simp at ha |-
        omega
      simp [this]
theorem QmU (e:E):∀ (P:List E),P.Pairwise (fun a b=>a.lsn < b.lsn)->P.any (Q3 e) = true->(P.getD (P.findIdx (Q3 e)) E0).lsn = e.ref->Qoe P (P.findIdx (Q3 e)) = P.filter fun y=>!decide (y.lsn = e.ref)
  | [],_,h,_=>by cases h
  | a :: r,h,hq,hl=>by
    rw [List.pairwise_cons] at h
    rw [List.findIdx_cons] at hl |-
    rw [List.filter_cons]
    cases ha:Q3 e a
    · rw [ha] at hl
      have hq:r.any (Q3 e) = true:=by simpa [ha] using hq
      have hl:(r.getD (r.findIdx (Q3 e)) E0).lsn = e.ref:=by simpa using hl
      have:=QmU e r h.2 hq hl
      unfold Qoe at this |-
      have hne:a.lsn ≠ e.ref:=by unfold Q3 at ha; simp at ha; omega
      simp [hne]
      simpa using this
    · rw [ha] at hl
      have hl:a.lsn = e.ref:=by simpa using hl
      have:r.filter (fun y=>!decide (y.lsn = e.ref)) = r:=List.filter_eq_self.2 fun b hb=>by
        have:=h.1 b hb
        simp
        omega
      simp [Qoe,hl,this]
structure Inv (f:Int) (es:List E) (i:Nat) (A:Ck):Prop where
  pg:∀ p,Qlv A.Pg p = if Qca es p i = 0 then none else some (Qca es p i)
  un:∀ n,n ∈ A.U ↔ QjS es i n = true
  no:∀ x,1<=x->Qhv A.T x = none->∀ k,k < i->(es.getD k E0).tx ≠ x
  so:∀ x t,1<=x->Qhv A.T x = some t->Qag es x i ≠ 0/\t.last = Qag es x i/\t.ab = Qft es x i/\t.en = exE es i (Qhx x)/\t.ea = exE es i (QeE f x)/\t.P = QcH es i x
theorem QiU {es:List E} {x:Int}:∀ {i:Nat},(∀ k,k < i->(es.getD k E0).tx ≠ x)->Qag es x i = 0/\Qft es x i = false
  | 0,_=>⟨rfl,rfl⟩
  | i + 1,h=>by
    rw [Qag,Qft,if_neg (h i (by omega)),if_neg (h i (by omega))]
    exact QiU fun k hk=>h k (by omega)
theorem Qsn {es:List E} {x:Int} {i:Nat} {f:Int} (h:∀ k,k < i->(es.getD k E0).tx ≠ x):exE es i (Qhx x) = false/\exE es i (QeE f x) = false/\QcH es i x = []:=by
  refine ⟨exE_iff'.2 fun k hk=>?_,exE_iff'.2 fun k hk=>?_,?_⟩
  · unfold Qhx; rw [decide_eq_false (h k hk)]; rfl
  · unfold QeE; rw [decide_eq_false (h k hk)]; rfl
  · rw [List.eq_nil_iff_forall_not_mem]
    intro y hy
    obtain ⟨⟨k,hk,rfl⟩,_,h2,_⟩:=mem_penL.1 hy
    exact h k hk h2
theorem QxE {f:Int} {es:List E} (W:Wf f es) {i:Nat} {A:Ck} (I:Inv f es i A) (e:E) (ht:1<=e.tx) :
    ckB f A e = ((if Qag es e.tx i = 0 then decide (e.ptx < f) else decide (e.ptx = Qag es e.tx i) && !exE es i (Qhx e.tx)) && ((!QeI e || pagedB f A.Pg e) && Qhj f A.U e (if Qag es e.tx i = 0 then decide (0 < e.ptx) else exE es i (QeE f e.tx)) (Qft es e.tx i) (QcH es i e.tx))) /\
    ckS f A e = ⟨Qop A.T ⟨e.tx,e.lsn,if Qag es e.tx i = 0 then decide (0 < e.ptx) else exE es i (QeE f e.tx),nab e (Qft es e.tx i),nen e (exE es i (Qhx e.tx)),QdN f e (QcH es i e.tx)⟩,if QeI e = true then QpP A.Pg e.c.pg e.lsn else A.Pg,QiC A.U e⟩:=by
  unfold ckB ckS
  have h0:e.tx ≠ 0:=by omega
  rw [if_neg h0,if_neg h0]
  cases hT:Qhv A.T e.tx with
  | none =>
    have hn:=I.no e.tx ht hT
    obtain ⟨h1,h2⟩:=QiU hn
    obtain ⟨h3,h4,h5⟩:=Qsn (f:=f) hn
    rw [h1,h2,h3,h5]
    exact ⟨rfl,rfl⟩
  | some t =>
    obtain ⟨h0,h1,h2,h3,h4,h5⟩:=I.so e.tx t ht hT
    simp only [h1,h2,h3,h4,h5,if_neg h0]
    exact ⟨trivial,trivial⟩
theorem QvM {f:Int} {es:List E} (W:Wf f es) {i:Nat} (hi:i<=es.length) (x:Int):Qjm es i x 0 (-1) 0 = !(QcH es i x).isEmpty:=by
  unfold Qjm
  rw [Bool.eq_iff_iff,QmD,Bool.not_eq_true',List.isEmpty_eq_false_iff_exists_mem]
  constructor
  · rintro ⟨k,hk,h⟩
    unfold Qt7 Qzn at h
    simp only [Bool.and_eq_true,decide_eq_true_eq,Bool.not_eq_true'] at h
    exact ⟨_,mem_penL.2 ⟨⟨k,hk,rfl⟩,h.1.1,h.1.2.1,h.2⟩⟩
  · rintro ⟨y,hy⟩
    obtain ⟨⟨k,hk,rfl⟩,h1,h2,h3⟩:=mem_penL.1 hy
    refine ⟨k,hk,?_⟩
    have:=(W.ok k (by omega)).lsn
    have:=W.f1
    unfold Qt7 Qzn
    simp only [Bool.and_eq_true,decide_eq_true_eq,Bool.not_eq_true',Bool.or_eq_true]
    exact ⟨⟨h1,h2,by omega,.inl (by decide)⟩,h3⟩
theorem Qsb {f:Int} {es:List E} (W:Wf f es) {i:Nat} (hi:i<=es.length) (x pg sl ab:Int) (hs:0<=sl):Qjm es i x pg sl ab = true ↔ ∃ y ∈ QcH es i x,ab < y.lsn/\y.c.pg = pg/\y.c.sl = sl:=by
  unfold Qjm
  rw [QmD]
  constructor
  · rintro ⟨k,hk,h⟩
    unfold Qt7 Qzn at h
    simp only [Bool.and_eq_true,decide_eq_true_eq,Bool.not_eq_true',Bool.or_eq_true] at h
    refine ⟨_,mem_penL.2 ⟨⟨k,hk,rfl⟩,h.1.1,h.1.2.1,h.2⟩,h.1.2.2.1,?_⟩
    rcases h.1.2.2.2 with h | h
    · omega
    · exact h
  · rintro ⟨y,hy,ha,hc⟩
    obtain ⟨⟨k,hk,rfl⟩,h1,h2,h3⟩:=mem_penL.1 hy
    refine ⟨k,hk,?_⟩
    unfold Qt7 Qzn
    simp only [Bool.and_eq_true,decide_eq_true_eq,Bool.not_eq_true',Bool.or_eq_true]
    exact ⟨⟨h1,h2,ha,.inr hc⟩,h3⟩
theorem QvN {f:Int} {es:List E} {i:Nat} {A:Ck} (I:Inv f es i A):Qku f es i = pagedB f A.Pg (es.getD i E0):=by
  unfold Qku pagedB
  rw [I.pg]
  by_cases h:Qca es (es.getD i E0).c.pg i = 0
  · rw [if_pos h,if_pos h]
  · rw [if_neg h,if_neg h]
theorem QBv {f:Int} {es:List E} (W:Wf f es) {i:Nat} (hi:i < es.length) :
    txR f es i = ((if Qag es (es.getD i E0).tx i = 0 then decide ((es.getD i E0).ptx < f) else decide ((es.getD i E0).ptx = Qag es (es.getD i E0).tx i) && !exE es i (Qhx (es.getD i E0).tx)) &&
      (if (es.getD i E0).kind = 2 then true else QeZ (es.getD i E0) (if Qag es (es.getD i E0).tx i = 0 then decide (0 < (es.getD i E0).ptx) else exE es i (QeE f (es.getD i E0).tx)) (Qft es (es.getD i E0).tx i) (QcH es i (es.getD i E0).tx))):=by
  have hp:=QvM W (Nat.le_of_lt hi) (es.getD i E0).tx
  have hl:=Qe0 W (es.getD i E0).tx i (by omega)
  have hb:=(W.ok i hi).ptx
  unfold txR Qsi QeZ
  rw [hp]
  have f1:=W.f1
  generalize QcH es i (es.getD i E0).tx = P at *
  rcases hl with ⟨h1,hn⟩ | ⟨h1,_⟩
  · obtain ⟨_,h2⟩:=QiU hn
    obtain ⟨h3,h4,_⟩:=Qsn (f:=f) hn
    rw [h1,h2,h3,h4]
    generalize es.getD i E0 = e at *
    by_cases hk2:e.kind = 2
    · by_cases hf:e.ptx < f<;>by_cases h0:e.ptx = 0<;>simp [hk2,hf,h0]<;>omega
    · by_cases hf:e.ptx < f<;>by_cases h0:e.ptx = 0<;>by_cases hk5:e.kind = 5<;>simp [hk2,hf,h0,hk5]<;>omega
  · have h0:Qag es (es.getD i E0).tx i ≠ 0:=by omega
    generalize Qag es (es.getD i E0).tx i = la at *
    generalize exE es i (Qhx (es.getD i E0).tx) = en at *
    generalize exE es i (QeE f (es.getD i E0).tx) = ea at *
    generalize Qft es (es.getD i E0).tx i = ab at *
    generalize es.getD i E0 = e at *
    by_cases hk2:e.kind = 2
    · by_cases hp:e.ptx = la<;>cases en<;>simp [hk2,h0,hp]
    · by_cases hp:e.ptx = la<;>by_cases hk5:e.kind = 5<;>cases en<;>cases ab<;>cases ea<;>simp [hk2,h0,hp,hk5]
theorem Qwy (x y:Ch):eqC x y = eqC y x:=by
  unfold eqC
  rw [Bool.eq_iff_iff]
  simp only [Bool.and_eq_true,beq_iff_eq]
  constructor<;>(rintro ⟨h1,h2,h3,h4,h5,h6⟩; exact ⟨h1.symm,h2.symm,h3.symm,h4.symm,h5.symm,h6.symm⟩)
theorem QdS {f:Int} {es:List E} (W:Wf f es) {i:Nat} (hi:i<=es.length) {x:Int} {y:E} (h:y ∈ QcH es i x):∃ k,k < i/\es.getD k E0 = y/\y.lsn = f + k:=by
  obtain ⟨⟨k,hk,rfl⟩,_⟩:=mem_penL.1 h
  exact ⟨k,hk,rfl,(W.ok k (by omega)).lsn⟩
theorem QvL {f:Int} {es:List E} (W:Wf f es) {i:Nat} (hi:i<=es.length) {x x':Int} {y y':E} (h:y ∈ QcH es i x) (h':y' ∈ QcH es i x') (e:y.lsn = y'.lsn):y = y':=by
  obtain ⟨k,_,rfl,h1⟩:=QdS W hi h
  obtain ⟨k',_,rfl,h2⟩:=QdS W hi h'
  obtain rfl:k = k':=by omega
  rfl
theorem Qi1 {P:List E} {e:E} (hs:P.Pairwise fun a b=>a.lsn < b.lsn) (ha:P.any (Q3 e) = true) :
    P.getD (P.findIdx (Q3 e)) E0 ∈ P/\Q3 e (P.getD (P.findIdx (Q3 e)) E0) = true/\P.filter (Q3 e) = P.getD (P.findIdx (Q3 e)) E0 :: P.drop (P.findIdx (Q3 e) + 1)/\∀ y ∈ P.drop (P.findIdx (Q3 e) + 1),(P.getD (P.findIdx (Q3 e)) E0).lsn < y.lsn:=by
  have hj:P.findIdx (Q3 e) < P.length:=List.findIdx_lt_length_of_exists (by simpa using ha)
  have hd:=Qi7 e P hs
  have hc:P.drop (P.findIdx (Q3 e)) = P.getD (P.findIdx (Q3 e)) E0 :: P.drop (P.findIdx (Q3 e) + 1):=by
    rw [Qn P _ hj,List.drop_eq_getElem_cons hj]
  rw [hc] at hd
  have hm:P.getD (P.findIdx (Q3 e)) E0 ∈ P.filter (Q3 e):=by rw [<- hd]; exact List.mem_cons_self
  have hsf:=hs.filter (Q3 e)
  rw [<- hd,List.pairwise_cons] at hsf
  exact ⟨(List.mem_filter.1 hm).1,(List.mem_filter.1 hm).2,hd.symm,hsf.1⟩
theorem Qys {f:Int} {es:List E} (W:Wf f es) {i:Nat} (hi:i < es.length) {A:Ck} (I:Inv f es i A) (e:E) (he:es.getD i E0 = e) (hk:e.kind = 2):Qof f A.U (QcH es i e.tx) e = QlT f es i:=by
  have hok:=W.ok i hi
  have hil:=Nat.le_of_lt hi
  have hs:=QdT W hil e.tx
  rw [he] at hok
  have hsl:=Qsb W hil e.tx e.c.pg e.c.sl e.ref (hok.sl hk)
  have hun:decide (e.ref ∈ A.U) = QjS es i e.ref:=by
    rw [Bool.eq_iff_iff,decide_eq_true_eq]
    exact I.un _
  unfold Qof QlT
  rw [he,hun]
  by_cases hf:e.ref < f
  · rw [if_pos hf]
    have hall:∀ y ∈ QcH es i e.tx,Q3 e y = true:=fun y hy=>by
      obtain ⟨k,_,_,h⟩:=QdS W hil hy
      unfold Q3
      exact decide_eq_true (by omega)
    have hpen:Qjm es i e.tx e.c.pg e.c.sl e.ref = (QcH es i e.tx).any (QcS e):=by
      rw [Bool.eq_iff_iff,hsl,List.any_eq_true]
      constructor
      · rintro ⟨y,hy,_,h1,h2⟩
        exact ⟨y,hy,by unfold QcS; rw [decide_eq_true h1,decide_eq_true h2]; rfl⟩
      · rintro ⟨y,hy,h⟩
        unfold QcS at h
        simp only [Bool.and_eq_true,decide_eq_true_eq] at h
        obtain ⟨k,_,_,hl⟩:=QdS W hil hy
        exact ⟨y,hy,by omega,h.1,h.2⟩
    rw [hpen,Bool.and_comm]
    congr 1
    have hfe:¬ f<=e.ref:=by omega
    rw [if_neg hfe,Qi7 e _ hs,List.filter_eq_self.2 hall]
    split
    · rfl
    · rename_i hno
      cases hP:QcH es i e.tx with
      | nil=>simp [hf]
      | cons a r =>
        exfalso
        rw [hP] at hno hall
        exact hno (by rw [List.any_cons,hall a (by simp)]; rfl)
  · rw [if_neg hf]
    have hfe:f<=e.ref:=by omega
    have href:=hok.ref
    have hlsn:=hok.lsn
    have hk0:(e.ref - f).toNat < i:=by omega
    have hx:=(W.ok (e.ref - f).toNat (by omega)).lsn
    obtain ⟨x,hxe⟩:∃ x,es.getD (e.ref - f).toNat E0 = x:=⟨_,rfl⟩
    rw [hxe] at hx |-
    have hx:x.lsn = e.ref:=by omega
    by_cases hm:x ∈ QcH es i e.tx
    · obtain ⟨_,h1,h2,h3⟩:=mem_penL.1 hm
      have ha:(QcH es i e.tx).any (Q3 e) = true:=List.any_eq_true.2 ⟨x,hm,by unfold Q3; exact decide_eq_true (by omega)⟩
      obtain ⟨a1,a2,a3,a4⟩:=Qi1 hs ha
      rw [if_pos ha,if_pos hfe]
      generalize (QcH es i e.tx).findIdx (Q3 e) = j at *
      have hy:(QcH es i e.tx).getD j E0 = x:=by
        have hxf:x ∈ (QcH es i e.tx).filter (Q3 e):=List.mem_filter.2 ⟨hm,by unfold Q3; exact decide_eq_true (by omega)⟩
        rw [a3] at hxf
        rcases List.mem_cons.1 hxf with h | h
        · exact h.symm
        · have:=a4 x h
          unfold Q3 at a2
          have:=of_decide_eq_true a2
          omega
      rw [hy] at a2 a3 a4 |-
      have hpen:Qjm es i e.tx e.c.pg e.c.sl e.ref = ((QcH es i e.tx).drop (j + 1)).any (QcS e):=by
        rw [Bool.eq_iff_iff,hsl,List.any_eq_true]
        constructor
        · rintro ⟨y,hy,hl,h1,h2⟩
          have hyf:y ∈ (QcH es i e.tx).filter (Q3 e):=List.mem_filter.2 ⟨hy,by unfold Q3; exact decide_eq_true (by omega)⟩
          rw [a3] at hyf
          rcases List.mem_cons.1 hyf with h | h
          · rw [h] at hl; omega
          · exact ⟨y,h,by unfold QcS; rw [decide_eq_true h1,decide_eq_true h2]; rfl⟩
        · rintro ⟨y,hy,h⟩
          unfold QcS at h
          simp only [Bool.and_eq_true,decide_eq_true_eq] at h
          have hl:=a4 y hy
          exact ⟨y,List.mem_of_mem_drop hy,by omega,h.1,h.2⟩
      rw [hpen,decide_eq_true h1,decide_eq_true h2,decide_eq_true hx,Qwy]
      cases eqC e.c x.c.inv<;>cases QjS es i e.ref<;>simp
    · have hL:(decide (x.kind = 1) && (decide (x.tx = e.tx) && (eqC e.c x.c.inv && (!QjS es i e.ref && !Qjm es i e.tx e.c.pg e.c.sl e.ref)))) = false:=by
        rw [Bool.eq_false_iff]
        intro h
        simp only [Bool.and_eq_true,decide_eq_true_eq,Bool.not_eq_true'] at h
        exact hm (mem_penL.2 ⟨⟨_,hk0,hxe⟩,h.1,h.2.1,by rw [hx]; exact h.2.2.2.1⟩)
      rw [hL,if_pos hfe]
      split
      · rename_i ha
        obtain ⟨a1,a2,a3,a4⟩:=Qi1 hs ha
        have hne:((QcH es i e.tx).getD ((QcH es i e.tx).findIdx (Q3 e)) E0).lsn ≠ e.ref:=fun h=>by
          obtain ⟨k,hk,hke,hkl⟩:=QdS W hil a1
          have:k = (e.ref - f).toNat:=by omega
          rw [this,hxe] at hke
          exact hm (hke ▸ a1)
        rw [decide_eq_false hne]
        simp
      · rw [decide_eq_false hf]
        simp
theorem QD0 {f:Int} {es:List E} (W:Wf f es) {i:Nat} (hi:i < es.length) {A:Ck} (I:Inv f es i A):ckB f A (es.getD i E0) = Qls f es i:=by
  have hok:=W.ok i hi
  unfold Qls
  rcases hok.tx with ⟨ht,hk⟩ | ⟨ht,hk⟩
  · rw [(QxE W I _ ht).1,QBv W hi,QvN I,decide_eq_true (show 0 < (es.getD i E0).tx by omega)]
    unfold Qhj
    by_cases hk2:(es.getD i E0).kind = 2
    · rw [if_pos hk2,if_pos hk2,Qys W hi I _ rfl hk2,decide_eq_true hk2]
      simp
    · rw [if_neg hk2,if_neg hk2,decide_eq_false hk2]
      generalize QeZ _ _ _ _ = b
      generalize pagedB _ _ _ = c
      generalize (if Qag es (es.getD i E0).tx i = 0 then _ else _:Bool) = a
      cases a<;>cases b<;>cases c<;>cases QeI (es.getD i E0)<;>rfl
  · have h1:QeI (es.getD i E0) = false:=by
      unfold QeI
      rw [Bool.or_eq_false_iff]
      exact ⟨beq_eq_false_iff_ne.2 hk.1,beq_eq_false_iff_ne.2 hk.2.1⟩
    rw [h1,decide_eq_false hk.2.1,decide_eq_false (show ¬ 0 < (es.getD i E0).tx by omega),ckB,if_pos ht]
    rfl
theorem Qks {f:Int} {es:List E} (W:Wf f es) {i:Nat} (hi:i < es.length) (x:Int):QcH es (i + 1) x = (QcH es i x).filter (fun y=>!undp y.lsn (es.getD i E0)) ++ (if (es.getD i E0).kind = 1/\(es.getD i E0).tx = x then [es.getD i E0] else []):=by
  unfold QcH
  rw [QmK,List.filter_append,List.filter_filter]
  congr 1
  · refine List.filter_congr fun y _=>?_
    rw [Qd9]
    cases decide (y.kind = 1)<;>cases decide (y.tx = x)<;>cases QjS es i y.lsn<;>cases undp y.lsn (es.getD i E0)<;>rfl
  · have hf:=QuD W hi
    have hl:=(W.ok i hi).lsn
    rw [<- hl] at hf
    rw [List.filter_cons,List.filter_nil,Qd9,hf]
    generalize es.getD i E0 = e at *
    by_cases h1:e.kind = 1
    · by_cases h2:e.tx = x
      · simp [h1,h2,undp]
      · simp [h1,h2]
    · simp [h1]
theorem Qkt {f:Int} {es:List E} (W:Wf f es) {i:Nat} (hi:i < es.length) (x:Int) (h1:¬ ((es.getD i E0).kind = 1/\(es.getD i E0).tx = x)) (h2:(es.getD i E0).kind = 2->∀ y ∈ QcH es i x,y.lsn ≠ (es.getD i E0).ref):QcH es (i + 1) x = QcH es i x:=by
  rw [Qks W hi,if_neg h1,List.append_nil]
  refine List.filter_eq_self.2 fun y hy=>?_
  unfold undp
  by_cases hk:(es.getD i E0).kind = 2
  · rw [decide_eq_false (show ¬ (es.getD i E0).ref = y.lsn from fun h=>h2 hk y hy h.symm),Bool.and_false]
    rfl
  · rw [decide_eq_false hk]
    rfl
theorem QmV {f:Int} {U:List Int} {P:List E} {e:E} (h:Qof f U P e = true) (hf:f<=e.ref):P.any (Q3 e) = true/\(P.getD (P.findIdx (Q3 e)) E0).lsn = e.ref:=by
  unfold Qof at h
  rw [if_pos hf] at h
  by_cases ha:P.any (Q3 e) = true
  · rw [if_pos ha] at h
    simp only [Bool.and_eq_true,decide_eq_true_eq] at h
    exact ⟨ha,h.2.1⟩
  · rw [if_neg ha,decide_eq_false (show ¬ e.ref < f by omega),Bool.and_false] at h
    cases h
theorem QDM {es:List E} {i:Nat} (h:(es.getD i E0).kind ≠ 1/\(es.getD i E0).kind ≠ 2):QeI (es.getD i E0) = false:=by
  unfold QeI
  rw [Bool.or_eq_false_iff]
  exact ⟨beq_eq_false_iff_ne.2 h.1,beq_eq_false_iff_ne.2 h.2⟩
theorem QfT {f:Int} {es:List E} (W:Wf f es) {i:Nat} (hi:i < es.length) {A:Ck} (I:Inv f es i A) (h:ckB f A (es.getD i E0) = true):Inv f es (i + 1) (ckS f A (es.getD i E0)):=by
  have hok:=W.ok i hi
  have hil:=Nat.le_of_lt hi
  have other:∀ x,(es.getD i E0).tx ≠ x->Qag es x (i + 1) = Qag es x i/\Qft es x (i + 1) = Qft es x i/\exE es (i + 1) (Qhx x) = exE es i (Qhx x)/\exE es (i + 1) (QeE f x) = exE es i (QeE f x):=fun x hx=>by
    refine ⟨by rw [Qag,if_neg hx],by rw [Qft,if_neg hx],?_,?_⟩
    · rw [Qds]; unfold Qhx; rw [decide_eq_false hx,Bool.false_and,Bool.or_false]
    · rw [Qds]; unfold QeE; rw [decide_eq_false hx,Bool.false_and,Bool.or_false]
  rcases hok.tx with ⟨ht,hk⟩ | ⟨ht,hk⟩
  · obtain ⟨eB,eS⟩:=QxE W I _ ht
    rw [eB] at h
    rw [eS]
    have hlast:=Qe0 W (es.getD i E0).tx i hil
    have hund:(es.getD i E0).kind = 2->Qof f A.U (QcH es i (es.getD i E0).tx) (es.getD i E0) = true:=fun hk2=>by
      unfold Qhj at h
      rw [if_pos hk2] at h
      simp only [Bool.and_eq_true] at h
      exact h.2.2
    have hptx:if Qag es (es.getD i E0).tx i = 0 then (es.getD i E0).ptx < f else (es.getD i E0).ptx = Qag es (es.getD i E0).tx i:=by
      have:=h
      simp only [Bool.and_eq_true] at this
      have:=this.1
      split at this
      · rename_i h0; rw [if_pos h0]; exact of_decide_eq_true this
      · rename_i h0; rw [if_neg h0]; simp only [Bool.and_eq_true,decide_eq_true_eq] at this; exact this.1
    refine ⟨fun p=>?_,fun n=>?_,fun x hx hn k hk'=>?_,fun x t hx hsome=>?_⟩
    · dsimp only
      rw [Qca]
      by_cases hc:QeI (es.getD i E0) = true
      · rw [if_pos hc,Qwo,I.pg]
        by_cases hp:(es.getD i E0).c.pg = p
        · rw [if_pos hp,if_pos (show QeI (es.getD i E0) = true/\(es.getD i E0).c.pg = p from ⟨hc,hp⟩),if_neg (show ¬ (es.getD i E0).lsn = 0 by have:=hok.lsn; have:=W.f1; omega)]
        · rw [if_neg hp,if_neg (show ¬ (QeI (es.getD i E0) = true/\(es.getD i E0).c.pg = p) from fun h=>hp h.2)]
      · rw [if_neg hc,if_neg (show ¬ (QeI (es.getD i E0) = true/\(es.getD i E0).c.pg = p) from fun h=>hc h.1),I.pg]
    · dsimp only
      rw [Qd9]
      unfold QiC undp
      by_cases hk2:(es.getD i E0).kind = 2
      · rw [if_pos hk2,QvX,I.un,decide_eq_true hk2,Bool.true_and,Bool.or_eq_true,decide_eq_true_eq]
        constructor
        · rintro (h | h)
          · exact .inl h
          · exact .inr h.symm
        · rintro (h | h)
          · exact .inl h
          · exact .inr h.symm
      · rw [if_neg hk2,I.un,decide_eq_false hk2,Bool.false_and,Bool.or_false]
    · dsimp only at hn
      rw [Qk5] at hn
      dsimp only at hn
      split at hn
      · cases hn
      · rename_i hne
        by_cases hki:k = i
        · rw [hki]; exact hne
        · exact I.no x hx hn k (by omega)
    · dsimp only at hsome
      rw [Qk5] at hsome
      dsimp only at hsome
      by_cases hxe:(es.getD i E0).tx = x
      · rw [if_pos hxe] at hsome
        obtain rfl:=Option.some.inj hsome
        subst hxe
        dsimp only
        rw [Qag,if_pos rfl,Qft,if_pos rfl,Qds,Qds,Qks W hi]
        refine ⟨by have:=hok.lsn; have:=W.f1; omega,rfl,rfl,?_,?_,?_⟩
        · unfold nen Qhx
          rw [decide_eq_true rfl,Bool.true_and,Bool.or_assoc]
        · unfold QeE
          rw [decide_eq_true rfl,Bool.true_and]
          rcases hlast with ⟨h0,hno⟩ | ⟨h0,_⟩
          · rw [if_pos h0] at hptx |-
            have:=(Qsn (f:=f) hno).2.1
            unfold QeE at this
            rw [this,decide_eq_true hptx,Bool.false_or,Bool.and_true]
          · have hne:Qag es (es.getD i E0).tx i ≠ 0:=by have:=W.f1; omega
            rw [if_neg hne] at hptx |-
            rw [decide_eq_false (show ¬ (es.getD i E0).ptx < f by omega),Bool.and_false,Bool.or_false]
        · unfold QdN
          by_cases hk2:(es.getD i E0).kind = 2
          · rw [if_pos hk2,if_neg (by omega),List.append_nil]
            unfold QqP
            by_cases hf:f<=(es.getD i E0).ref
            · obtain ⟨a1,a2⟩:=QmV (hund hk2) hf
              rw [if_pos hf,QmU _ _ (QdT W hil _) a1 a2]
              refine List.filter_congr fun y _=>?_
              unfold undp
              rw [decide_eq_true hk2,Bool.true_and]
              congr 1
              rw [decide_eq_decide]
              exact eq_comm
            · rw [if_neg hf]
              refine (List.filter_eq_self.2 fun y hy=>?_).symm
              obtain ⟨k,_,_,hl⟩:=QdS W hil hy
              unfold undp
              rw [decide_eq_false (show ¬ (es.getD i E0).ref = y.lsn by omega),Bool.and_false]
              rfl
          · rw [if_neg hk2]
            have hid:(QcH es i (es.getD i E0).tx).filter (fun y=>!undp y.lsn (es.getD i E0)) = QcH es i (es.getD i E0).tx:=List.filter_eq_self.2 fun y _=>by
              unfold undp
              rw [decide_eq_false hk2]
              rfl
            rw [hid]
            unfold nP
            by_cases hk1:(es.getD i E0).kind = 1
            · rw [if_pos hk1,if_pos ⟨hk1,rfl⟩]
            · rw [if_neg hk1,if_neg (fun h=>hk1 h.1),List.append_nil]
      · rw [if_neg hxe] at hsome
        obtain ⟨o1,o2,o3,o4⟩:=other x hxe
        rw [o1,o2,o3,o4,Qkt W hi x (fun h=>hxe h.2) ?_]
        · exact I.so x t hx hsome
        · intro hk2 y hy hl
          by_cases hf:f<=(es.getD i E0).ref
          · obtain ⟨a1,a2⟩:=QmV (hund hk2) hf
            obtain ⟨b1,_⟩:=Qi1 (QdT W hil _) a1
            have:=QvL W hil hy b1 (by rw [hl,a2])
            rw [<- this] at b1
            have h1:=(mem_penL.1 hy).2.2.1
            have h2:=(mem_penL.1 b1).2.2.1
            exact hxe (h2.symm.trans h1)
          · obtain ⟨k,_,_,hl'⟩:=QdS W hil hy
            omega
  · have hc:=QDM ⟨hk.1,hk.2.1⟩
    rw [ckS,if_pos ht]
    refine ⟨fun p=>?_,fun n=>?_,fun x hx hn k hk'=>?_,fun x t hx hsome=>?_⟩
    · rw [Qca,if_neg (show ¬ (QeI (es.getD i E0) = true/\(es.getD i E0).c.pg = p) from fun h=>by rw [hc] at h; cases h.1),I.pg]
    · rw [Qd9,I.un]
      unfold undp
      rw [decide_eq_false hk.2.1,Bool.false_and,Bool.or_false]
    · by_cases hki:k = i
      · rw [hki]; omega
      · exact I.no x hx hn k (by omega)
    · obtain ⟨o1,o2,o3,o4⟩:=other x (by omega)
      rw [o1,o2,o3,o4,Qkt W hi x (fun h=>hk.1 h.1) (fun h=>absurd h hk.2.1)]
      exact I.so x t hx hsome
theorem Qwf (f:Int) (es:List E):Inv f es 0 Ck0:=⟨fun p=>rfl,fun n=>by simp [Ck0,QjS,exE],fun x hx hn k hk=>by omega,fun x t hx h=>by cases h⟩
theorem QxD {f:Int} {es:List E} (W:Wf f es):∀ i,i<=es.length->ckL f Ck0 (es.take i) = (List.range i).all (Qls f es)/\(ckL f Ck0 (es.take i) = true->Inv f es i (ckA f Ck0 (es.take i)))
  | 0,_=>⟨rfl,fun _=>Qwf f es⟩
  | i + 1,hi=>by
    obtain ⟨h1,h2⟩:=QxD W i (by omega)
    rw [Qi6 hi,Qi9,QmI,List.range_succ,List.all_append,h1]
    cases hb:(List.range i).all (Qls f es)
    · simp
    · have I:=h2 (h1.trans hb)
      have he:=QD0 W hi I
      simp only [ckL,ckA,List.all_cons,List.all_nil,Bool.and_true,Bool.true_and]
      exact ⟨he,fun h=>QfT W hi I h⟩
theorem QCL (x:Lg):QxF x = QoF x:=by
  unfold QxF QoF
  by_cases h:lgB x = true
  · rw [if_pos h,if_pos h]
    have:=(QxD (Wf.of h) x.es.length (Nat.le_refl _)).1
    rw [List.take_length] at this
    rw [this]
  · rw [if_neg h,if_neg h]
section
structure RQ (s:List UInt8) where
  at_:Nat
  sh:Bool
  ha:at_<=s.length
def rbQ (T:TypeId) (s:List UInt8) (r:RQ s):Blk:=⟨T,true,[.pv (.str s),.int .i64 r.at_,.bool r.sh]⟩
theorem Qze (T:TypeId) (s:List UInt8) (r:RQ s):DV.nums.go (fun _=>false) (rbQ T s r).cells = true:=rfl
def Qb9 (s:List UInt8) (k:Nat) (r:RQ s):Int × RQ s:=
  if h:r.sh = true\/¬ r.at_ + k<=s.length then (0,⟨r.at_,true,r.ha⟩) else (IntKind.i64.wrap (Qly s r.at_ k),⟨r.at_ + k,false,by omega⟩)
theorem QgB {s:List UInt8} {k:Nat} {r:RQ s} (h:r.sh = true\/¬ r.at_ + k<=s.length):Qb9 s k r = (0,⟨r.at_,true,r.ha⟩):=by unfold Qb9; rw [dif_pos h]
theorem Qmr {s:List UInt8} {k:Nat} {r:RQ s} (h:r.sh = false) (h':r.at_ + k<=s.length):Qb9 s k r = (IntKind.i64.wrap (Qly s r.at_ k),⟨r.at_ + k,false,h'⟩):=by
  unfold Qb9; rw [dif_neg (fun z=>z.elim (fun z=>by rw [h] at z; cases z) (fun z=>z h'))]
def RQ.lim {s:List UInt8} (r:RQ s):Nat:=r.at_ + (if r.sh then 4 else 0)
theorem RQ.lim_le {s:List UInt8} (r:RQ s):r.lim<=s.length + 4:=by have:=r.ha; unfold RQ.lim; split<;>omega
theorem QgC {s:List UInt8} {k:Nat} (hk:4<=k) (r:RQ s) (hr:r.sh = false):r.lim + 4<=(Qb9 s k r).2.lim:=by
  by_cases h:r.at_ + k<=s.length
  · rw [Qmr hr h]; simp only [RQ.lim,hr]; simp; omega
  · rw [QgB (.inr h)]; simp only [RQ.lim,hr]; simp
theorem QfR {s:List UInt8} {k:Nat} (r:RQ s):r.lim<=(Qb9 s k r).2.lim:=by
  cases hr:r.sh
  · by_cases h:r.at_ + k<=s.length
    · rw [Qmr hr h]; simp only [RQ.lim,hr]; simp
    · rw [QgB (.inr h)]; simp only [RQ.lim,hr]; simp
  · rw [QgB (.inl hr)]; simp only [RQ.lim,hr]; simp
theorem Qnt {s:List UInt8} {k:Nat} (r:RQ s) : -9223372036854775808<=(Qb9 s k r).1/\(Qb9 s k r).1<=9223372036854775807:=by
  unfold Qb9
  split
  · dsimp only; omega
  · dsimp only; rw [IntKind.wrap_i64]; omega
def rdN (s:List UInt8):Nat->List Int->RQ s->List Int × RQ s
  | 0,out,r=>(out,r)
  | n + 1,out,r=>if r.sh = true then (out,r) else rdN s n (out ++ [(Qb9 s 8 r).1]) (Qb9 s 8 r).2
theorem QBW {s:List UInt8} {n:Nat} {out:List Int} {r:RQ s} (h:r.sh = true):rdN s n out r = (out,r):=by cases n; rfl; rw [rdN,if_pos h]
theorem Qmc {s:List UInt8}:∀ (n:Nat) (out:List Int) (r:RQ s),4 * out.length<=r.lim->4 * (rdN s n out r).1.length<=(rdN s n out r).2.lim/\r.lim<=(rdN s n out r).2.lim
  | 0,_,_,h=>⟨h,Nat.le_refl _⟩
  | n + 1,out,r,h=>by
    unfold rdN
    split
    · exact ⟨h,Nat.le_refl _⟩
    · rename_i hr
      have h1:=QgC (k:=8) (by omega) r (by simpa using hr)
      have h2:=Qmc n (out ++ [(Qb9 s 8 r).1]) (Qb9 s 8 r).2 (by simp; omega)
      exact ⟨h2.1,by omega⟩
def QfE (s:List UInt8) (k:Nat) (r:RQ s):List Int × RQ s:=rdN s (Qb9 s k r).1.toNat [] (Qb9 s k r).2
theorem QkL {s:List UInt8} {k:Nat} (r:RQ s):4 * (QfE s k r).1.length<=s.length + 4:=Nat.le_trans (Qmc _ _ _ (Nat.zero_le _)).1 (RQ.lim_le _)
theorem QkK {s:List UInt8} {k:Nat} (r:RQ s):r.lim<=(QfE s k r).2.lim:=Nat.le_trans (QfR r) (Qmc _ _ _ (Nat.zero_le _)).2
def txS (s:List UInt8) (r:RQ s):Tx × RQ s:=
  let a:=Qb9 s 4 r
  let b:=Qb9 s 1 a.2
  let c:=Qb9 s 8 b.2
  let d:=Qb9 s 8 c.2
  let q:=QfE s 2 d.2
  let v:=QfE s 1 q.2
  (⟨a.1,b.1,c.1,d.1,q.1,v.1⟩,v.2)
theorem QmW {s:List UInt8} (r:RQ s) (hr:r.sh = false):r.lim + 4<=(txS s r).2.lim:=by
  have h1:=QgC (k:=4) (by omega) r hr
  refine Nat.le_trans h1 ?_
  unfold txS
  refine Nat.le_trans (QfR _) (Nat.le_trans (QfR _) (Nat.le_trans (QfR _) (Nat.le_trans (QkK _) (QkK _))))
theorem QBu {s:List UInt8} (hs:s.length<=3000000) (r:RQ s):(txS s r).1.sm:=⟨by have:=QkL (k:=2) (Qb9 s 8 (Qb9 s 8 (Qb9 s 1 (Qb9 s 4 r).2).2).2).2; show (QfE s 2 _).1.length<=_; omega,by have:=QkL (k:=1) (QfE s 2 (Qb9 s 8 (Qb9 s 8 (Qb9 s 1 (Qb9 s 4 r).2).2).2).2).2; show (QfE s 1 _).1.length<=_; omega⟩
def rdT (s:List UInt8):Nat->List Tx->RQ s->List Tx × RQ s
  | 0,out,r=>(out,r)
  | n + 1,out,r=>if r.sh = true then (out,r) else rdT s n (out ++ [(txS s r).1]) (txS s r).2
theorem QBV {s:List UInt8} {n:Nat} {out:List Tx} {r:RQ s} (h:r.sh = true):rdT s n out r = (out,r):=by cases n; rfl; rw [rdT,if_pos h]
theorem QrQ {s:List UInt8}:∀ (n:Nat) (out:List Tx) (r:RQ s),4 * out.length<=r.lim->4 * (rdT s n out r).1.length<=(rdT s n out r).2.lim
  | 0,_,_,h=>h
  | n + 1,out,r,h=>by
    unfold rdT
    split
    · exact h
    · rename_i hr
      have h1:=QmW r (by simpa using hr)
      exact QrQ n (out ++ [(txS s r).1]) (txS s r).2 (by simp; omega)
theorem Qxk {s:List UInt8} (hs:s.length<=3000000):∀ (n:Nat) (out:List Tx) (r:RQ s),(∀ t ∈ out,t.sm)->∀ t ∈ (rdT s n out r).1,t.sm
  | 0,_,_,h=>h
  | n + 1,out,r,h=>by
    unfold rdT
    split
    · exact h
    · refine Qxk hs n _ _ fun t ht=>?_
      rcases List.mem_append.1 ht with h1 | h1
      · exact h t h1
      · rw [List.mem_singleton.1 h1]; exact QBu hs r
def rq0 (s:List UInt8):RQ s:=⟨0,false,Nat.zero_le _⟩
def rdA (s:List UInt8):List Tx × RQ s:=rdT s (Qb9 s 2 (rq0 s)).1.toNat [] (Qb9 s 2 (rq0 s)).2
theorem QBX {s:List UInt8} (hs:s.length<=3000000):smL (rdA s).1:=
  ⟨by have:=QrQ (Qb9 s 2 (rq0 s)).1.toNat [] (Qb9 s 2 (rq0 s)).2 (Nat.zero_le _); have h2:=(rdA s).2.lim_le; unfold rdA at h2 |-; omega,Qxk hs _ _ _ (by simp)⟩
def QCH (s:List UInt8):List Tx × Int:=
  if (rdA s).2.sh = true then ([],5) else if ((rdA s).2.at_:Int) ≠ s.length then ([],4) else if QdM (rdA s).1 = false then ([],15) else ((rdA s).1,0)
abbrev RY (T:TypeId) (s:List UInt8) (v:DV) (q:RQ s):DV->Qa->Prop:=fun r h'=>∃ B',h' = [B']/\B'.live = true/\DV.nums.go (fun _=>false) B'.cells = true/\r.nums (fun _=>false) = true/\(r = v/\B' = rbQ T s q)
theorem Qiu {g:FuncId} {args:List DV} {hp:Qa} {k:Nat} {T:TypeId} {s:List UInt8} {r q:RQ s} {v:DV} {K:DV->Qa->Prop} (h:VCalls prog g (args.map (DV.ren fun _=>0)) [rbQ T s r] (RY T s v q)) (hk:hp[k]? = some (rbQ T s r))
    (ha:DV.nums.go (fun i=>i == k) args = true) (hK:K v (hp.set k (rbQ T s q))):VCalls prog g args hp K:=
  (VCalls.ptr1 (R:=fun x B'=>x = v/\B' = rbQ T s q) hk rfl (Qze T s r) h ha).mono fun x h' ⟨B',e1,_,_,e2,e3⟩=>by subst e1 e2 e3; exact hK
attribute [local go_sem] rbQ
attribute [local go_sem] QzD QA9 QBB QBA Qs0 QfG
@[go_sem] def lb (l:List Int):DV:=.pv (.sl (fz Q0 l))
theorem QdO (s:List UInt8) (hs:s.length<=3000000) (k:Nat) (h1:1<=k) (h8:k<=8) (r:RQ s):VCalls prog 258 [.ptr 0 0,.int .i64 k] [rbQ 350 s r] (RY 350 s (.int .i64 (Qb9 s k r).1) (Qb9 s k r).2):=by
  refine dd Tryz.func258 ?_
  have ha:=r.ha
  by_cases h:r.at_ + k<=s.length
  · have c1:=QhR s (by omega) r.at_ k ⟨h1,h8⟩ h
    cases hr:r.sh
    · rw [Qmr hr h]
      (unfold Tryz.f258; refine rn trivial ?_)
      have F:=@hr
      refine rn F ?_
      repeat' (first
        | with_reducible exact ⟨⟩
        | refine vp F (c1) ?_
        | (refine Qd (id:=1) [0,1,2,3,4,5,6,7,8] [⟨[],[],9,[0,1,2,4,5,6],[10,11,12]⟩,⟨[],[],13,[12],[]⟩,⟨[],[],14,[],[]⟩] (by kernel_rfl) (by kernel_rfl) ?_; refine rn F ?_))
      all_goals exact ⟨_,rfl,rfl,rfl,rfl,rfl,rfl⟩
    · rw [QgB (.inl hr)]
      (unfold Tryz.f258; refine rn trivial ?_)
      have F:=@hr
      refine rn F ?_
      repeat' (first
        | with_reducible exact ⟨⟩
        | refine vp F (c1) ?_
        | (refine Qd (id:=1) [0,1,2,3,4,5,6,7,8] [⟨[],[],9,[0,1,2,4,5,6],[10,11,12]⟩,⟨[],[],13,[12],[]⟩,⟨[],[],14,[],[]⟩] (by kernel_rfl) (by kernel_rfl) ?_; refine rn F ?_))
      all_goals exact ⟨_,rfl,rfl,rfl,rfl,rfl,(by first | rfl | simp only [rbQ,hr])⟩
  · have c1:=Qdm s r.at_ k (by omega) (by omega) (by omega)
    rw [QgB (.inr h)]
    (unfold Tryz.f258; refine rn trivial ?_)
    have F:=trivial
    refine rn F ?_
    repeat' (first
      | with_reducible exact ⟨⟩
      | (refine sG F ?_ ?_<;>intro hZ)
      | refine vp F (c1) ?_
      | (refine Qd (id:=1) [0,1,2,3,4,5,6,7,8] [⟨[],[],9,[0,1,2,4,5,6],[10,11,12]⟩,⟨[],[],13,[12],[]⟩,⟨[],[],14,[],[]⟩] (by kernel_rfl) (by kernel_rfl) ?_; refine rn F ?_))
    all_goals exact ⟨_,rfl,rfl,rfl,rfl,rfl,rfl⟩
structure LSrnum (s:List UInt8) (fin:List Int × RQ s) where
  n:Int
  out:List Int
  r:RQ s
  hn : -9223372036854775808<=n/\n<=9223372036854775807
  ho:4 * out.length<=r.lim
  he:rdN s n.toNat out r = fin
theorem Qxi (s:List UInt8) (hs:s.length<=3000000) (k:Nat) (h1:1<=k) (h8:k<=8) (r:RQ s):VCalls prog 259 [.ptr 0 0,.int .i64 k] [rbQ 350 s r] (RY 350 s (lb (QfE s k r).1) (QfE s k r).2):=by
  refine dd Tryz.func259 ?_
  (unfold Tryz.f259; refine rn trivial ?_)
  refine Qiu (k:=0) (QdO s hs k h1 h8 r) rfl rfl ?_
  refine rn trivial ?_
  refine VLoop.nilOwn 5 3 1 rfl ?_
  refine Qh (fun t:LSrnum s (QfE s k r)=>⟨27,1,[(6,.int .i64 t.n),(5,.own 1 1 0 t.out.length),(0,.ptr 0 0)],[rbQ 350 s t.r,⟨3,true,cells Q0 t.out⟩]⟩) (fun t=>t.n.toNat) ⟨(Qb9 s k r).1,[],(Qb9 s k r).2,Qnt r,Nat.zero_le _,rfl⟩ (gc [0,1]) ?_
  rintro ⟨n,out,q,hn,ho,he⟩
  dsimp only
  have hl:=q.lim_le
  have hl1:out.length + 1<=1000000:=by omega
  have hb:(out.length + 1) * 8<=140737488355328:=by omega
  obtain ⟨a,sh,ha⟩:=q
  cases sh
  · by_cases h0:0 < n
    · have e:n.toNat = (n - 1).toNat + 1:=by omega
      rw [e,rdN,if_neg (by simp)] at he
      have hm:=QgC (k:=8) (by omega) (⟨a,false,ha⟩:RQ s) rfl
      have F:=(And.intro @h0 (And.intro @Qlk @hb))
      refine rn F ?_
      refine Qiu (k:=0) (QdO s hs 8 (by omega) (by omega) ⟨a,false,ha⟩) rfl rfl ?_
      have F:=(And.intro @Qlk @hb)
      refine rn F ?_
      refine ⟨⟨n - 1,_,_,by omega,by simp; omega,he⟩,by show (n - 1).toNat < n.toNat; omega,?_⟩
      dsimp only
      rw [List.length_append]
      exact (gc [0,3])
    · have e:n.toNat = 0:=by omega
      rw [e,rdN] at he
      have F:=(And.intro @Qlk @hb)
      (refine rn F ?_; try with_reducible exact ⟨⟩)
      all_goals exact ⟨_,rfl,rfl,rfl,rfl,(by rw [<- he]; try rfl),(by rw [<- he]; try rfl)⟩
  · rw [QBW rfl] at he
    have F:=(And.intro @Qlk @hb)
    refine rn F ?_
    repeat' (first
      | with_reducible exact ⟨⟩
      | (refine sG F ?_ ?_<;>intro hZ))
    all_goals exact ⟨_,rfl,rfl,rfl,rfl,(by rw [<- he]; try rfl),(by rw [<- he]; try rfl)⟩
structure DTrnum (s:List UInt8) where
  n:Int
  out:List Tx
  r:RQ s
  hn : -9223372036854775808<=n/\n<=9223372036854775807
  ho:4 * out.length<=r.lim
  he:rdT s n.toNat out r = rdA s
theorem Qoy (s:List UInt8) (hs:s.length<=3000000):VCalls prog 256 [.pv (.str s)] [] (Ret (QA3 (QCH s))):=by
  refine VCalls.unwk ?_
  refine dd Tryz.func256 ?_
  (unfold Tryz.f256; refine rn trivial ?_)
  refine Qiu (k:=0) (QdO s hs 2 (by omega) (by omega) (rq0 s)) rfl rfl ?_
  refine rn trivial ?_
  refine VLoop.nilOwn 5 218 6 rfl ?_
  refine Qh (fun t:DTrnum s=>⟨64,0,[(6,.int .i64 t.n),(5,.own 1 6 0 t.out.length),(4,.ptr 0 0),(0,.pv (.str s))],[rbQ 350 s t.r,⟨218,true,cells Qah t.out⟩]⟩) (fun t=>t.n.toNat) ⟨(Qb9 s 2 (rq0 s)).1,[],(Qb9 s 2 (rq0 s)).2,Qnt _,Nat.zero_le _,rfl⟩ (gc [0,1]) ?_
  rintro ⟨n,out,q,hn,ho,he⟩
  dsimp only
  have hl:=q.lim_le
  have hb:(out.length + 1) * 80<=140737488355328:=by omega
  have hsm:=QBX hs
  have ed:QCH s = if (rdA s).2.sh = true then ([],5) else if ((rdA s).2.at_:Int) ≠ s.length then ([],4) else if QdM (rdA s).1 = false then ([],15) else ((rdA s).1,0):=rfl
  obtain ⟨a,sh,ha⟩:=q
  cases sh
  · by_cases h0:0 < n
    · have e:n.toNat = (n - 1).toNat + 1:=by omega
      rw [e,rdT,if_neg (by simp)] at he
      have hm:=QmW (⟨a,false,ha⟩:RQ s) rfl
      simp only [txS] at he hm
      have cA:=QdO s hs 4 (by omega) (by omega) ⟨a,false,ha⟩
      generalize Qb9 s 4 ⟨a,false,ha⟩ = A at cA he hm
      have cB:=QdO s hs 1 (by omega) (by omega) A.2
      generalize Qb9 s 1 A.2 = B at cB he hm
      have cC:=QdO s hs 8 (by omega) (by omega) B.2
      generalize Qb9 s 8 B.2 = C at cC he hm
      have cD:=QdO s hs 8 (by omega) (by omega) C.2
      generalize Qb9 s 8 C.2 = D at cD he hm
      have cE:=Qxi s hs 2 (by omega) (by omega) D.2
      generalize QfE s 2 D.2 = E at cE he hm
      have cF:=Qxi s hs 1 (by omega) (by omega) E.2
      generalize QfE s 1 E.2 = W at cF he hm
      have F:=(And.intro @h0 (And.intro @QfG @hb))
      refine rn F ?_
      refine Qiu (k:=0) cA rfl rfl ?_
      have F:=(And.intro @h0 (And.intro @QfG @hb))
      refine rn F ?_
      refine Qiu (k:=0) cB rfl rfl ?_
      have F:=(And.intro @h0 (And.intro @QfG @hb))
      refine rn F ?_
      refine Qiu (k:=0) cC rfl rfl ?_
      have F:=(And.intro @h0 (And.intro @QfG @hb))
      refine rn F ?_
      refine Qiu (k:=0) cD rfl rfl ?_
      have F:=(And.intro @h0 (And.intro @QfG @hb))
      refine rn F ?_
      refine Qiu (k:=0) cE rfl rfl ?_
      have F:=(And.intro @h0 (And.intro @QfG @hb))
      refine rn F ?_
      refine Qiu (k:=0) cF rfl rfl ?_
      have F:=(And.intro @h0 (And.intro @QfG @hb))
      refine rn F ?_
      refine ⟨⟨n - 1,_,_,by omega,by simp; omega,he⟩,by show (n - 1).toNat < n.toNat; omega,?_⟩
      dsimp only
      have e2:cells Qah out ++ [.pv (.lit (.int .i64 A.1)),.pv (.lit (.int .i64 B.1)),.pv (.lit (.int .i64 C.1)),.pv (.lit (.int .i64 D.1)),.pv (.sl (fz Q0 E.1)),.pv (.sl (fz Q0 W.1))] = cells Qah (out ++ [⟨A.1,B.1,C.1,D.1,E.1,W.1⟩]):=QfG out ⟨A.1,B.1,C.1,D.1,E.1,W.1⟩
      rw [List.length_append]
      rw [e2]
      exact (gc [0,4])
    · have e:n.toNat = 0:=by omega
      rw [e,rdT] at he
      rw [<- he] at ed hsm
      have c1:=QbC out hsm
      rw [ed]
      by_cases h1:(a:Int) = s.length
      · cases hv:QdM out
        · rw [hv] at c1
          dsimp only
          rw [if_neg (by simp),if_neg (by simpa using h1),if_pos (by first | rfl | exact hv)]
          have F:=(And.intro @h0 (And.intro @h1 @hb))
          refine rn F ?_
          repeat' (first
            | with_reducible exact ⟨⟩
            | refine vl F (c1) ?_)
          all_goals first | rfl | contradiction
        · rw [hv] at c1
          dsimp only
          rw [if_neg (by simp),if_neg (by simpa using h1),if_neg (by first | simp; done | (rw [hv]; simp))]
          have F:=(And.intro @h0 (And.intro @h1 @hb))
          refine rn F ?_
          repeat' (first
            | with_reducible exact ⟨⟩
            | refine vl F (c1) ?_)
          all_goals first | rfl | contradiction
      · dsimp only
        rw [if_neg (by simp),if_pos (by simpa using h1)]
        have F:=(And.intro @h0 (And.intro @h1 @hb))
        (refine rn F ?_; try with_reducible exact ⟨⟩)
        all_goals first | rfl | contradiction
  · rw [QBV rfl] at he
    rw [<- he] at ed
    rw [ed]
    dsimp only
    rw [if_pos rfl]
    have F:=@hb
    refine rn F ?_
    repeat' (first
      | with_reducible exact ⟨⟩
      | (refine sG F ?_ ?_<;>intro hZ))
    all_goals first | rfl | contradiction
end
section
attribute [local go_sem] Qbb
structure Sv where
  k:Kn
  v:Dv
@[go_sem] def Sv.d (s:Sv):List DV:=[.int .i64 s.k.pg,.int .i64 s.k.nx,.int .i64 s.k.lg.f,.pv (.sl (fz encE s.k.lg.es)),.int .i64 s.k.lg.d,.int .i64 s.k.pl.size,.pv (.sl (fz Qcn s.k.pl.fs)),.int .i64 s.k.pl.hand,.pv (.sl (fz Qap s.k.lk.held)),.pv (.sl (fz Qap s.k.lk.wait)),.pv (.sl (fz Qah s.k.tx)),.pv (.sl (fz Qb1 s.k.ix)),.pv (.sl (fz Qdt s.k.la)),.pv (.sl (fz Qdu s.v.ps)),.int .i64 s.v.wr,.pv (.sl []),.bool s.v.dead,.pv (.sl [])]
def Sv0:Sv:=⟨Kn0,Dv0⟩
def Sv.sm (s:Sv):Prop:=s.k.sm/\s.v.ps.length<=64
theorem Qc9:Sv0.sm:=⟨QbR,Nat.zero_le _⟩
@[go_sem] def svD (a:Sv × Int):DV:=.tup [.agg a.1.d,.int .i64 a.2]
def Zv:List DV:=[.int .i64 0,.int .i64 0,.int .i64 0,.pv (.slc []),.int .i64 0,.int .i64 0,.pv (.slc []),.int .i64 0,.pv (.slc []),.pv (.slc []),.pv (.slc []),.pv (.slc []),.pv (.slc []),.pv (.slc []),.int .i64 0,.pv (.slc []),.bool false,.pv (.slc [])]
def QBa (k:Kn) (x:Pg) (a:Sv × Int):Prop:=a.1.sm/\(a.2 = 0->Ev k.lg a.1.k.lg/\a.1.k.tx = k.tx/\(0<=Qbo k.pl x.id->a.1.k.pl = (QbQ k.pl x.id x.lsn).1/\(QbQ k.pl x.id x.lsn).2 = 0))
theorem Qm5 (s:Sv) (hs:s.v.ps.length<=64) (k:Kn) (hk:k.sm) (x:Pg):VCalls prog 107 [.agg s.d,.agg k.d,.agg x.d] [] (QF svD (QBa k x)):=by
  refine dk Tryz.func107 ?_
  have c1:=Ql6 x
  have c2:=fun (t:List UInt8) (h:t.length<=256)=>QrN s.v (by omega) x.id t (by omega)
  have c3:=Qou k hk x.id x.lsn
  (unfold Tryz.f107; refine rn trivial ?_)
  refine rn F ?_
  repeat' (first
    | with_reducible exact ⟨⟩
    | (refine sB F ?_ ?_<;>intro hZ)
    | (refine Qk (c1) rfl ?_; rintro ⟨t,e1⟩ ht; refine rn F ?_)
    | (refine Qk (c2 t ht) rfl ?_; rintro ⟨v1,e2⟩ hv; refine rn F ?_)
    | (refine Qk (c3) rfl ?_; rintro ⟨k1,e3⟩ hq; refine rn F ?_))
  all_goals first
    | exact ⟨rfl,rfl,(Sv0,e2),rfl,Qc9,fun h=>absurd h (by assumption)⟩
    | exact ⟨rfl,rfl,(Sv0,e3),rfl,Qc9,fun h=>absurd h (by assumption)⟩
    | (have q:=hq.2 (by dsimp only; omega)
       exact ⟨rfl,rfl,(⟨k1,v1⟩,0),rfl,⟨hq.1,hv⟩,fun _=>⟨q.2.1,q.2.2.1,q.2.2.2.1⟩⟩)
    | skip
def Qc3 (l:List Fm):Nat:=l.countP (·.dirty)
theorem Qh3 (l:List Fm):Qc3 (l.map Fm.clr) = Qc3 l:=by
  unfold Qc3; rw [List.countP_map]; rfl
theorem SameF.dirty {l m:List Fm} (h:SameF l m):Qc3 m = Qc3 l:=by
  rw [<- Qh3 m,<- Qh3 l,show m.map Fm.clr = l.map Fm.clr from h]
theorem Qpc (l:List Fm) (i:Nat) (h:i < l.length) (hu:(l.getD i Fm0).dirty = true) (f:Fm) (hf:f.dirty = false):Qc3 (l.set i f) < Qc3 l:=by
  unfold Qc3
  rw [List.countP_set h]
  rw [Qn l i h] at hu
  have:0 < l.countP (·.dirty):=List.countP_pos_iff.2 ⟨l[i],List.getElem_mem h,hu⟩
  simp only [hu,hf,if_true]
  simp
  omega
theorem Qpp {p:Pl} {x:Pg} {i:Nat} (hp:plB p = true) (hi:i < p.fs.length) (h1:idF p.fs x.id = i) (h2:(p.fs.getD i Fm0).pg = x) (h3:(p.fs.getD i Fm0).dirty = true):Qc3 (QbQ p x.id x.lsn).1.fs < Qc3 p.fs:=by
  unfold QbQ
  rw [if_neg (by rw [hp]; decide),h1,if_neg (by omega),Int.toNat_natCast,h2,if_neg (by omega),if_neg (by rw [h3]; decide)]
  refine Qpc _ _ hi h3 _ ?_
  unfold Qfp
  rw [h2,if_pos rfl]
def stQ (s:Sv) (a:Sv × Int):Prop:=a.1.sm/\(a.2 = 0->Ev s.k.lg a.1.k.lg/\a.1.k.tx = s.k.tx)
structure Rm (s0:Sv) where
  s:Sv
  sm:s.sm
  ev:Ev s0.k.lg s.k.lg
  tx:s.k.tx = s0.k.tx
theorem Qu7 (s:Sv) (hs:s.sm):VCalls prog 135 [.agg s.d] [] (QF svD (stQ s)):=by
  refine dk Tryz.func135 ?_
  (unfold Tryz.f135; refine rn trivial ?_)
  refine Qh (fun r:Rm s=>⟨36,0,[(2,.ptr 1 0),(1,.ptr 0 0)],[⟨84,true,r.s.d⟩,⟨84,true,Zv⟩]⟩) (fun r=>Qc3 r.s.k.pl.fs) ⟨s,hs,Ev.refl _,rfl⟩ (gc [0,1]) ?_
  rintro ⟨s1,sm,ev,tx⟩
  dsimp only
  have c1:=QyR s1.k sm.1
  have c2:=fun k hk x=>Qm5 s1 sm.2 k hk x
  unfold Zv
  refine rn F ?_
  repeat' (first
    | with_reducible exact ⟨⟩
    | (refine sB F ?_ ?_<;>intro hZ)
    | (refine Qk (c1) rfl ?_; rintro ⟨k1,x,b,e⟩ hq; refine rn F ?_)
    | (refine Qk (c2 k1 hq.1 x) rfl ?_; rintro ⟨s2,e2⟩ hq2; refine rn F ?_))
  · exact ⟨rfl,rfl,(Sv0,e),rfl,Qc9,fun h=>absurd h (by assumption)⟩
  · have q:=hq.2 (by dsimp only; omega)
    exact ⟨rfl,rfl,(⟨k1,s1.v⟩,0),rfl,⟨hq.1,sm.2⟩,fun _=>⟨ev.trans q.1,q.2.1.trans tx⟩⟩
  · exact ⟨rfl,rfl,(Sv0,e2),rfl,Qc9,fun h=>absurd h (by assumption)⟩
  · have q:=hq.2 (by dsimp only; omega)
    have q2:=hq2.2 (by dsimp only; omega)
    obtain ⟨p1,p2,i,p3,p4,p5,p6⟩:=q.2.2 (by dsimp only; first | assumption | simp_all)
    dsimp only at p1 p2 p3 p4 p5 p6
    have hf:Qbo k1.pl x.id = i:=by unfold Qbo; rw [if_pos p1]; exact p4
    obtain ⟨r1,r2⟩:=q2.2.2 (by rw [hf]; omega)
    have hlt:=Qpp p1 p3 p4 p5 p6
    rw [p2.dirty] at hlt
    dsimp only at r1
    exact ⟨⟨s2,hq2.1,(ev.trans q.1).trans q2.1,q2.2.1.trans (q.2.1.trans tx)⟩,by dsimp only; rw [r1]; exact hlt,(gc [0,1])⟩
def QxA (s:Sv) (n:Int) (a:Sv × Int):Prop:=a.1.sm/\(a.2 = 0->Ev s.k.lg a.1.k.lg/\a.1.k.tx = s.k.tx/\0<=idF a.1.k.pl.fs n)
theorem Qej (s:Sv) (hs:s.sm) (n:Int):VCalls prog 112 [.agg s.d,.int .i64 n] [] (QF svD (QxA s n)):=by
  refine dk Tryz.func112 ?_
  have c1:=QQ s.k hs.1
  have c2:=Qcr s.k.pl (Nat.le_trans hs.1.2.1 (by decide)) n
  have c3:=Qu7 s hs
  have c4:=fun (t:Sv) (h:t.sm)=>Qvu t.v (Nat.le_trans h.2 (by decide)) n
  have c5:=fun (t:Sv) (h:t.sm)=>Qma t.k h.1 n
  have c6:=fun (t:Sv) (h:t.sm) (hd:Int) (b:List UInt8) (hb:b.length<=1000000)=>Qvk t.k.ix h.1.2.2.2.2.1 n hd b hb
  have c7:=fun (t:Sv) (h:t.sm) (p:Pg) (hd:Int)=>QyS t.k.lg h.1.1 p hd
  have c8:=fun (t:Sv) (h:t.sm) (p:Pg)=>Qrf t.k h.1 p
  have hfi:0<=Qbo s.k.pl n->0<=idF s.k.pl.fs n:=fun h=>by unfold Qbo at h; split at h<;>omega
  have e0:∀ e,e ≠ 0->QxA s n (Sv0,e):=fun e h=>⟨Qc9,fun h2=>absurd h2 h⟩
  generalize Qbo s.k.pl n = fi at *
  (unfold Tryz.f112; refine rn trivial ?_)
  refine rn F ?_
  repeat' (first
    | with_reducible exact ⟨⟩
    | (refine sG F ?_ ?_<;>intro hZ)
    | (refine sB F ?_ ?_<;>intro hZ)
    | (refine Qk (c1) rfl ?_; rintro b -; refine rn F ?_)
    | refine vp F (c2) ?_
    | (refine Qk (c3) rfl ?_; rintro ⟨s1,e1⟩ hq1; refine rn F ?_)
    | (refine Qk (c4 s1 hq1.1) rfl ?_; rintro ⟨t,e2⟩ ht; refine rn F ?_)
    | (refine Qk (c5 s1 hq1.1) rfl ?_; rintro hd -; refine rn F ?_)
    | (refine Qk (c6 s1 hq1.1 hd t (by have:=ht (by dsimp only; omega); dsimp only at this; omega)) rfl ?_; rintro ⟨p,e3⟩ hp; refine rn F ?_)
    | (refine Qk (c7 s1 hq1.1 p hd) rfl ?_; rintro ⟨p2,e4⟩ hp2; refine rn F ?_)
    | (refine Qk (c8 s1 hq1.1 p2) rfl ?_; rintro ⟨k2,e5⟩ hq5; refine rn F ?_))
  all_goals first
    | exact ⟨rfl,rfl,(s,0),rfl,hs,fun _=>⟨Ev.refl _,rfl,hfi (by omega)⟩⟩
    | exact ⟨rfl,rfl,(Sv0,_),rfl,e0 _ (by assumption)⟩
    | exact ⟨rfl,rfl,(Sv0,15),rfl,e0 _ (by decide)⟩
    | exact ⟨rfl,rfl,(Sv0,1),rfl,e0 _ (by decide)⟩
    | (have q1:=hq1.2 (by dsimp only; omega)
       have q5:=hq5.2 (by dsimp only; omega)
       have i3:=hp (by dsimp only; omega)
       have i4:=hp2 (by dsimp only; omega)
       dsimp only at q1 q5 i3 i4
       exact ⟨rfl,rfl,(⟨k2,s1.v⟩,0),rfl,⟨hq5.1,hq1.1.2⟩,fun _=>⟨by dsimp only; rw [q5.1]; exact q1.1,q5.2.1.trans q1.2,by dsimp only; have:=q5.2.2; rw [i4,i3] at this; exact this⟩⟩)
    | skip
end
section
attribute [local go_sem] Qbb
@[go_sem] def tiD (a:Tx × Int):DV:=.tup [.agg a.1.d,.int .i64 a.2]
@[go_sem] def ebD (a:E × Bool):DV:=.tup [.agg a.1.d,.bool a.2]
def Qyu (l:List Tx) (a:Int):Tx:=l.getD (idT l a).toNat Tx0
def QBL (k:Kn) (tx:Int) (a:Tx × Int):Prop:=a.1.l.length<=100000/\(a.2 = 0->VK k/\0<=idT k.tx tx/\a.1 = Qyu k.tx tx)
theorem Qdk (k:Kn) (h:k.sm) (tx:Int):VCalls prog 142 [.agg k.d,.int .i64 tx] [] (QF tiD (QBL k tx)):=by
  refine dk Tryz.func142 ?_
  have c1:=QQ k h
  obtain ⟨h1,h2,h3,h4,h5,h6⟩:=h
  have c2:=QbV k.tx (Nat.le_trans h4.1 (by decide)) tx
  have e0:∀ e,e ≠ 0->QBL k tx (Tx0,e):=fun e h=>⟨by simp [Tx0],fun h2=>absurd h2 h⟩
  rcases Q8 k.tx tx with hn | ⟨i,hil,hid,_⟩
  · rw [hn] at c2
    (unfold Tryz.f142; refine rn trivial ?_)
    refine rn F ?_
    repeat' (first
      | with_reducible exact ⟨⟩
      | (refine sB F ?_ ?_<;>intro hZ)
      | (refine Qk (c1) rfl ?_; rintro b -; refine rn F ?_)
      | refine vp F (c2) ?_)
    all_goals exact ⟨rfl,rfl,(Tx0,_),rfl,e0 _ (by decide)⟩
  rw [hid] at c2
  have hg:=QdV k.tx i hil
  have ht:(k.tx.getD i Tx0).l.length<=100000:=by rw [Qn _ _ hil]; exact (h4.2 _ (List.getElem_mem hil)).1
  have he:Qyu k.tx tx = k.tx.getD i Tx0:=by unfold Qyu; rw [hid]; rfl
  (unfold Tryz.f142; refine rn trivial ?_)
  have F:=@hg
  refine rn F ?_
  repeat' (first
    | with_reducible exact ⟨⟩
    | (refine sB F ?_ ?_<;>intro hZ)
    | (refine Qk (c1) rfl ?_; rintro b hb; refine rn F ?_)
    | refine vp F (c2) ?_)
  all_goals first
    | exact ⟨rfl,rfl,(k.tx.getD i Tx0,0),rfl,ht,fun _=>⟨hb (by assumption),by omega,he.symm⟩⟩
    | exact ⟨rfl,rfl,(Tx0,15),rfl,e0 _ (by decide)⟩
    | exact ⟨rfl,rfl,(Tx0,16),rfl,e0 _ (by decide)⟩
    | skip
def QoS (l:List Tx) (a:Int):Int:=(Qyu l a).l.getD ((Qyu l a).l.length - 1) 0
def QiV (l:List Tx) (g:Lg) (a:Int):E:=(Qfk g (QoS l a)).1
def QCe (k:Kn) (tx:Int) (a:E × Bool):Prop:=a.2 = true->VK k/\a.1 = QiV k.tx k.lg tx/\(Qfk k.lg (QoS k.tx tx)).2 = 0
theorem Qy3 (k:Kn) (h:k.sm) (tx:Int):VCalls prog 144 [.agg k.d,.int .i64 tx] [] (QF ebD (QCe k tx)):=by
  refine dk Tryz.func144 ?_
  have c1:=Qdk k h tx
  obtain ⟨h1,h2,h3,h4,h5,h6⟩:=h
  have c2:=QhS k.lg (by omega)
  have e0:QCe k tx (E0,false):=fun h=>by cases h
  (unfold Tryz.f144; refine rn trivial ?_)
  refine Qk c1 rfl ?_
  rintro ⟨t,e⟩ ⟨ht,hq⟩
  dsimp only at ht hq
  have hg:=fun h:t.l.length - 1 < t.l.length=>QZ t.l (t.l.length - 1) h
  have F:=@hg
  refine rn F ?_
  repeat' (first
    | with_reducible exact ⟨⟩
    | (refine sG F ?_ ?_<;>intro hZ)
    | (refine sB F ?_ ?_<;>intro hZ)
    | refine vp F (c2 _) ?_
    | (refine Qd (id:=2) [0,1,2,3,4,5,6,7,8,9,10,11,12,13,14,15,16,17,18,19,20] [] (by kernel_rfl) (by kernel_rfl) ?_; refine rn F ?_)
    | (refine Qd (id:=4) [0,1,2,3,4,5,6,7,8,9] [⟨[14],[],10,[0,2,3,4,5,6,7,8],[11,12,13]⟩,⟨[14],[14],15,[13],[]⟩,⟨[],[],16,[],[]⟩] (by kernel_rfl) (by kernel_rfl) ?_; refine rn F ?_))
  all_goals first
    | exact ⟨rfl,rfl,(E0,false),rfl,e0⟩
    | skip
  obtain ⟨v,_,rfl⟩:=hq (by first | omega | simp_all)
  exact ⟨rfl,rfl,((Qfk k.lg (QoS k.tx tx)).1,_),rfl,fun h=>⟨v,rfl,by simpa [QoS] using h⟩⟩
theorem QDJ (k:Kn) (h:k.sm) (t:Tx) (ht:t.l.length<=100000) (pg sl:Int):VCalls prog 235 [.agg k.d,.agg t.d,.agg [.int .i64 pg,.int .i64 sl],.int .i64 t.l.length] [] (QF ebD fun a=>a.2 = true->a.1.c.pg = pg):=by
  refine dk Tryz.func235 ?_
  obtain ⟨h1,h2,h3,h4,h5,h6⟩:=h
  have c2:=QhS k.lg (by omega)
  (unfold Tryz.f235; refine rn trivial ?_)
  refine Qh (fun s:To t.l.length=>⟨50,0,[(10,.int .i64 ((s.i:Int) - 1)),(8,.ptr 3 0),(6,.ptr 2 0),(5,.ptr 1 0),(4,.ptr 0 0)],[⟨41,true,k.d⟩,⟨218,true,t.d⟩,⟨197,true,[.int .i64 pg,.int .i64 sl]⟩,⟨60,true,E0.d⟩]⟩) (fun s=>s.i) ⟨t.l.length,Nat.le_refl _⟩ (gc [0,1,2,3]) ?_
  rintro ⟨i,hi⟩
  dsimp only
  have hg:=fun h:i - 1 < t.l.length=>QZ t.l (i - 1) h
  have c3:=c2 (t.l.getD (i - 1) 0)
  generalize Qfk k.lg (t.l.getD (i - 1) 0) = g at *
  have F:=@hg
  refine rn F ?_
  repeat' (first
    | with_reducible exact ⟨⟩
    | (refine sG F ?_ ?_<;>intro hZ)
    | (refine sB F ?_ ?_<;>intro hZ)
    | refine vp F (c3) ?_
    | (refine Qd (id:=4) [0,1,2,3,4,5,6] [⟨[11],[],7,[0,2,3,4,5],[8,9,10]⟩,⟨[11],[11],12,[10],[]⟩,⟨[],[],13,[],[]⟩] (by kernel_rfl) (by kernel_rfl) ?_; refine rn F ?_))
  all_goals first
    | exact ⟨rfl,rfl,(E0,false),rfl,fun h=>by cases h⟩
    | exact ⟨rfl,rfl,(g.1,true),rfl,fun _=>by dsimp only; omega⟩
    | (refine ⟨⟨i - 1,by omega⟩,by dsimp only; omega,?_⟩
       dsimp only
       rw [show ((i - 1:Nat):Int) - 1 = (i:Int) - 1 - 1 by omega]
       exact (gc [0,1,2,3]))
    | skip
theorem Qkg (k:Kn) (h:k.sm) (tx pg sl:Int):VCalls prog 189 [.agg k.d,.int .i64 tx,.agg [.int .i64 pg,.int .i64 sl]] [] (QF ebD fun a=>a.2 = true->a.1.c.pg = pg):=by
  refine dk Tryz.func189 ?_
  have c1:=Qdk k h tx
  (unfold Tryz.f189; refine rn trivial ?_)
  refine Qk c1 rfl ?_
  rintro ⟨t,e⟩ ⟨ht,hq⟩
  have c2:=QDJ k h t ht
  refine rn F ?_
  repeat' (first
    | with_reducible exact ⟨⟩
    | (refine sG F ?_ ?_<;>intro hZ)
    | (refine sB F ?_ ?_<;>intro hZ)
    | (refine Qk (c2 _ _) rfl ?_; rintro ⟨y,b⟩ hb; refine rn F ?_))
  all_goals first
    | exact ⟨rfl,rfl,(E0,false),rfl,fun h=>by cases h⟩
    | exact ⟨rfl,rfl,(y,b),rfl,hb⟩
    | skip
def QBr (k:Kn) (pg:Int) (a:Kn × Rs):Prop:=a.1.sm/\Ev k.lg a.1.lg/\(a.2.st = 3->a.1 = k/\a.2.pg = pg/\idF k.pl.fs pg < 0)/\(a.2.st ≠ 3->a.2.st ≠ 5->k.lg.es.length < a.1.lg.es.length)/\(a.2.st = 5->a.2.er ≠ 0)
theorem Qq9 (k:Kn) (h:k.sm) (hv:VK k) (t:Tx) (e:E):VCalls prog 145 [.agg k.d,.agg t.d,.agg e.d] [] (QF krD (QBr k e.c.pg)):=by
  refine dk Tryz.func145 ?_
  have h':=h
  obtain ⟨h1,h2,h3,h4,h5,h6⟩:=h
  have c1:=Qgo k.pl (by omega) e.c.pg
  have hn:=QsU (a:=e.c.pg) hv.2.2.2.1
  have c2:=Qxj e.c
  generalize QnF k.pl e.c.pg = g at *
  have c3:=Qke g.1 ⟨e.c.pg,e.c.sl,e.c.a,e.c.b⟩
  have c4:=Qxf k h' ⟨0,2,t.id,0,0,e.lsn,⟨e.c.pg,e.c.sl,e.c.a,e.c.b⟩,[]⟩ (.inr rfl)
  have hf:∀ er,er ≠ 0->QBr k e.c.pg (k,QaH er):=fun er hr=>⟨h',Ev.refl _,fun h=>by simp [QaH] at h,fun _ h=>absurd rfl h,fun _=>hr⟩
  (unfold Tryz.f145; refine rn trivial ?_)
  refine rn F ?_
  repeat' (first
    | with_reducible exact ⟨⟩
    | (refine sB F ?_ ?_<;>intro hZ)
    | refine vp F (c1) ?_
    | refine vp F (c2) ?_
    | (refine Qk (c3) rfl ?_; rintro ⟨p1,e1⟩ -; refine rn F ?_)
    | (refine Qk (c4) rfl ?_; rintro ⟨k1,e2⟩ hq; refine rn F ?_)
    | refine vp F (Qaa _) ?_
    | (refine Qk (Qkg k1 hq.1 _ _ _) rfl ?_; rintro ⟨y,b⟩ -; refine rn F ?_)
    | (refine Qk (QrP k1.lk (Nat.le_trans hq.1.2.2.1 (by decide)) _ _ _) rfl ?_; rintro u hu; refine rn F ?_)
    | (refine Qd (id:=3) [0,1,2,3,4] [⟨[],[],5,[1,2,3,4],[]⟩,⟨[],[],6,[],[]⟩] (by kernel_rfl) (by kernel_rfl) ?_; refine rn F ?_)
    | (refine Qd (id:=7) [0,1] [⟨[],[],2,[0],[]⟩,⟨[],[],3,[1],[]⟩,⟨[],[],4,[],[]⟩] (by kernel_rfl) (by kernel_rfl) ?_; refine rn F ?_)
    | (refine Qd (id:=10) [0,1] [⟨[],[],2,[0],[]⟩,⟨[],[],3,[1],[]⟩,⟨[],[],4,[],[]⟩] (by kernel_rfl) (by kernel_rfl) ?_; refine rn F ?_)
    | (refine Qd (id:=16) [0,1,2,3] [⟨[],[],4,[1,2,3],[]⟩,⟨[],[],5,[],[]⟩] (by kernel_rfl) (by kernel_rfl) ?_; refine rn F ?_))
  all_goals first
    | exact ⟨rfl,rfl,(k,⟨3,0,e.c.pg,Ce0,0⟩),rfl,h',Ev.refl _,fun _=>⟨rfl,rfl,hn (by first | assumption | simp_all)⟩,fun h=>absurd rfl h,fun h=>by simp at h⟩
    | exact ⟨rfl,rfl,(k,QaH _),rfl,hf _ (by assumption)⟩
    | (have q:=hq.2.1 (by dsimp only; omega)
       dsimp only at q
       first
         | exact ⟨rfl,rfl,(k1,⟨1,t.id,0,Ce0,0⟩),rfl,hq.1,q.1,fun h=>by simp at h,fun _ _=>by dsimp only; omega,fun h=>by simp at h⟩
         | (obtain ⟨r1,r2,r3,r4,r5,r6⟩:=hq.1
            exact ⟨rfl,rfl,(⟨k1.pg,k1.nx,k1.lg,k1.pl,u,k1.tx,k1.ix,k1.la⟩,⟨1,t.id,0,Ce0,0⟩),rfl,⟨r1,r2,Nat.le_trans hu r3,r4,r5,r6⟩,q.1,fun h=>by simp at h,fun _ _=>by dsimp only; omega,fun h=>by simp at h⟩))
    | skip
end
section
attribute [local go_sem] Qbb
def QBz (k:Kn) (tx:Int) (a:Kn × Rs):Prop:=a.1.sm/\Ev k.lg a.1.lg/\(a.2.st = 3->VK k/\a.1 = k/\a.2.pg = (QiV k.tx k.lg tx).c.pg/\(Qfk k.lg (QoS k.tx tx)).2 = 0/\idF k.pl.fs a.2.pg < 0)/\(a.2.st ≠ 3->a.2.st ≠ 5->k.lg.es.length < a.1.lg.es.length)/\(a.2.st = 5->a.2.er ≠ 0)
theorem Qrg (k:Kn) (h:k.sm) (tx:Int):VCalls prog 114 [.agg k.d,.int .i64 tx] [] (QF krD (QBz k tx)):=by
  refine dk Tryz.func114 ?_
  have c1:=Qdk k h tx
  have c2:=QdP k h ⟨0,5,tx,0,0,0,Ch0,[]⟩
  have c3:=Qy3 k h tx
  have hf:∀ er,er ≠ 0->QBz k tx (k,QaH er):=fun er hr=>⟨h,Ev.refl _,fun h=>by simp [QaH] at h,fun _ h=>absurd rfl h,fun _=>hr⟩
  (unfold Tryz.f114; refine rn trivial ?_)
  refine Qk c1 rfl ?_
  rintro ⟨t,e⟩ ⟨ht,hq0⟩
  by_cases he:e = 0
  rotate_left
  · skip
    have F:=@he
    refine rn F ?_
    repeat' (first
      | with_reducible exact ⟨⟩
      | refine vp F (Qaa _) ?_
      | (refine Qd (id:=3) [0,1] [⟨[],[],2,[0],[]⟩,⟨[],[],3,[1],[]⟩,⟨[],[],4,[],[]⟩] (by kernel_rfl) (by kernel_rfl) ?_; refine rn F ?_))
    exact ⟨rfl,rfl,(k,QaH e),rfl,hf _ he⟩
  obtain ⟨hv,hi,rfl⟩:=hq0 he
  subst he
  generalize Qyu k.tx tx = t at *
  have F:=trivial
  refine rn F ?_
  repeat' (first
    | with_reducible exact ⟨⟩
    | (refine sG F ?_ ?_<;>intro hZ)
    | (refine sB F ?_ ?_<;>intro hZ)
    | (refine Qk (c2) rfl ?_; rintro ⟨k1,n1,e1⟩ hq; refine rn F ?_)
    | refine vp F (Qaa _) ?_
    | (refine Qk (Qdl k1.lk (Nat.le_trans hq.1.2.2.1 (by decide)) tx) rfl ?_; rintro u hu; refine rn F ?_)
    | (refine Qk (c3) rfl ?_; rintro ⟨y,ok⟩ hy; refine rn F ?_)
    | (refine Qk (Qq9 k h hv ⟨_,_,_,_,_,_⟩ y) rfl ?_; rintro ⟨k2,r2⟩ hq2; refine rn F ?_)
    | (refine Qd (id:=7) [0,1] [⟨[],[],2,[0],[]⟩,⟨[],[],3,[1],[]⟩,⟨[],[],4,[],[]⟩] (by kernel_rfl) (by kernel_rfl) ?_; refine rn F ?_)
    | (refine Qd (id:=12) [0] [⟨[],[],1,[0],[]⟩,⟨[],[],2,[],[]⟩,⟨[],[],3,[],[]⟩] (by kernel_rfl) (by kernel_rfl) ?_; refine rn F ?_))
  all_goals first
    | exact ⟨rfl,rfl,(k,QaH _),rfl,hf _ (by first | assumption | decide)⟩
    | (obtain ⟨q1,q2,q3,q4,q5,q6,q7⟩:=Qd1 hq (by omega)
       obtain ⟨r1,r2,r3,r4,r5,r6⟩:=hq.1
       exact ⟨rfl,rfl,(⟨k1.pg,k1.nx,k1.lg,k1.pl,u,k1.tx,k1.ix,k1.la⟩,⟨1,0,0,Ce0,0⟩),rfl,⟨r1,r2,Nat.le_trans hu r3,r4,r5,r6⟩,q1,fun h=>by simp at h,fun _ _=>by dsimp only; omega,fun h=>by simp at h⟩)
    | (obtain ⟨y1,y2,y3⟩:=hy (by first | assumption | simp_all)
       dsimp only at y2
       exact ⟨rfl,rfl,(k2,r2),rfl,hq2.1,hq2.2.1,fun h=>⟨hv,(hq2.2.2.1 h).1,by rw [<- y2]; exact (hq2.2.2.1 h).2.1,y3,by rw [(hq2.2.2.1 h).2.1]; exact (hq2.2.2.1 h).2.2⟩,hq2.2.2.2.1,hq2.2.2.2.2⟩)
    | skip
def QCM (k:Kn) (pg:Int) (a:Kn × Rs):Prop:=a.1.sm/\Ev k.lg a.1.lg/\(a.2.st = 3->a.1 = k/\a.2.pg = pg/\idF k.pl.fs pg < 0)/\(a.2.st ≠ 3->a.2.st ≠ 5->a.2.tx ≠ 0->k.lg.es.length < a.1.lg.es.length)
theorem Qzc (k:Kn) (h:k.sm) (tx pg sl:Int):VCalls prog 153 [.agg k.d,.int .i64 tx,.agg [.int .i64 pg,.int .i64 sl]] [] (QF krD (QCM k pg)):=by
  refine dk Tryz.func153 ?_
  have c1:=Qdk k h tx
  have c3:=Qkg k h tx pg sl
  have hf:∀ er,QCM k pg (k,QaH er):=fun er=>⟨h,Ev.refl _,fun h=>by simp [QaH] at h,fun _ h=>absurd rfl h⟩
  (unfold Tryz.f153; refine rn trivial ?_)
  refine Qk c1 rfl ?_
  rintro ⟨t,e⟩ ⟨ht,hq0⟩
  by_cases he:e = 0
  rotate_left
  · skip
    have F:=@he
    refine rn F ?_
    repeat' (first
      | with_reducible exact ⟨⟩
      | refine vp F (Qaa _) ?_
      | (refine Qd (id:=3) [0,1] [⟨[],[],2,[0],[]⟩,⟨[],[],3,[1],[]⟩,⟨[],[],4,[],[]⟩] (by kernel_rfl) (by kernel_rfl) ?_; refine rn F ?_))
    exact ⟨rfl,rfl,(k,QaH e),rfl,hf _⟩
  obtain ⟨hv,hi,rfl⟩:=hq0 he
  subst he
  generalize Qyu k.tx tx = t at *
  have F:=trivial
  refine rn F ?_
  repeat' (first
    | with_reducible exact ⟨⟩
    | (refine sB F ?_ ?_<;>intro hZ)
    | refine vp F (Qaa _) ?_
    | (refine Qk (c3) rfl ?_; rintro ⟨y,ok⟩ hy; refine rn F ?_)
    | (refine Qk (Qq9 k h hv ⟨_,_,_,_,_,_⟩ y) rfl ?_; rintro ⟨k2,r2⟩ hq2; refine rn F ?_)
    | (refine Qd (id:=5) [0] [⟨[],[],1,[0],[]⟩,⟨[],[],2,[],[]⟩,⟨[],[],3,[],[]⟩] (by kernel_rfl) (by kernel_rfl) ?_; refine rn F ?_))
  all_goals first
    | exact ⟨rfl,rfl,(k,QaH _),rfl,hf _⟩
    | exact ⟨rfl,rfl,(k,⟨1,0,0,Ce0,0⟩),rfl,h,Ev.refl _,fun h=>by simp at h,fun _ _ h=>absurd rfl h⟩
    | (have y2:=hy (by first | assumption | simp_all)
       dsimp only at y2
       rw [y2] at hq2
       exact ⟨rfl,rfl,(k2,r2),rfl,hq2.1,hq2.2.1,hq2.2.2.1,fun h1 h2 _=>hq2.2.2.2.1 h1 h2⟩)
    | skip
end
section
attribute [local go_sem] Qbb
theorem Ev.get {x y:Lg} (h:Ev x y) {n:Int} (h0:(Qfk x n).2 = 0):Qfk y n = Qfk x n:=by
  obtain ⟨hv,h1,h2,_,_⟩:=QsV h0
  have hf:=h.f
  obtain ⟨t,ht⟩:=h.pre
  have hv2:=h.ok hv
  have hl:y.es.length = x.es.length + t.length:=by rw [<- ht,List.length_append]
  have hd:=QaC hv
  simp only [Lg.hd] at hd
  unfold Qfk
  rw [if_neg (by rw [hv2]; decide),if_neg (by simp only [Lg.end_] at *; omega),if_neg (by rw [hv]; decide),if_neg (by omega)]
  rw [hf,<- ht]
  congr 1
  simp only [Lg.end_] at h2
  rw [List.getD_eq_getElem?_getD,List.getD_eq_getElem?_getD,List.getElem?_append_left (by omega)]
theorem Qm7 (s:Sv) (hs:s.sm) (tx:Int):VCalls prog 149 [.agg s.d,.int .i64 tx] [] (QF boD fun _=>True):=by
  refine dd Tryz.func149 ?_
  have h4:=hs.1.2.2.2.1
  have c2:=QbV s.k.tx (Nat.le_trans h4.1 (by decide)) tx
  rcases Q8 s.k.tx tx with hn | ⟨i,hil,hid,_⟩
  · rw [hn] at c2
    (unfold Tryz.f149; refine rn trivial ?_)
    refine rn F ?_
    repeat' (first
      | with_reducible exact ⟨⟩
      | refine vp F (c2) ?_)
    all_goals exact ⟨rfl,rfl,_,rfl,trivial⟩
  rw [hid] at c2
  have hg:=QdV s.k.tx i hil
  (unfold Tryz.f149; refine rn trivial ?_)
  have F:=@hg
  refine rn F ?_
  repeat' (first
    | with_reducible exact ⟨⟩
    | refine vp F (c2) ?_)
  all_goals exact ⟨rfl,rfl,_,rfl,trivial⟩
def inP (l:List Fm) (a:Int):Nat:=if 0<=idF l a then 0 else 1
theorem Qxr (l:List Fm) (a:Int):inP l a<=1:=by unfold inP; split<;>omega
def rbM (tx:Int) (s:Sv):Nat:=2 * (4096 - s.k.lg.es.length) + inP s.k.pl.fs (QiV s.k.tx s.k.lg tx).c.pg
theorem QvB {tx:Int} {s t:Sv} (h:s.k.lg.es.length < t.k.lg.es.length) (hl:t.k.lg.es.length<=4096):rbM tx t < rbM tx s:=by
  have:=Qxr t.k.pl.fs (QiV t.k.tx t.k.lg tx).c.pg
  unfold rbM; omega
theorem Qnk {tx:Int} {s t:Sv} (ev:Ev s.k.lg t.k.lg) (hx:t.k.tx = s.k.tx) (h0:(Qfk s.k.lg (QoS s.k.tx tx)).2 = 0) (h1:idF s.k.pl.fs (QiV s.k.tx s.k.lg tx).c.pg < 0) (h2:0<=idF t.k.pl.fs (QiV s.k.tx s.k.lg tx).c.pg):rbM tx t < rbM tx s:=by
  have hl:=ev.len
  have e:QiV t.k.tx t.k.lg tx = QiV s.k.tx s.k.lg tx:=by unfold QiV; rw [hx,ev.get h0]
  unfold rbM
  rw [e]
  unfold inP
  rw [if_pos h2,if_neg (by omega)]
  omega
def evQ (s:Sv) (a:Sv × Int):Prop:=a.1.sm/\(a.2 = 0->Ev s.k.lg a.1.k.lg)
structure Re (s0:Sv) where
  s:Sv
  sm:s.sm
  ev:Ev s0.k.lg s.k.lg
theorem Ql5 (s:Sv) (hs:s.sm) (tx:Int):VCalls prog 150 [.agg s.d,.int .i64 tx] [] (QF svD (evQ s)):=by
  refine dk Tryz.func150 ?_
  have c1:=QQ s.k hs.1
  have c2:=QbV s.k.tx (Nat.le_trans hs.1.2.2.2.1.1 (by decide)) tx
  have e0:∀ e,e ≠ 0->evQ s (Sv0,e):=fun e h=>⟨Qc9,fun h2=>absurd h2 h⟩
  (unfold Tryz.f150; refine rn trivial ?_)
  refine rn F ?_
  repeat' (first
    | with_reducible exact ⟨⟩
    | (refine sB F ?_ ?_<;>intro hZ)
    | (refine Qk (c1) rfl ?_; rintro b -; refine rn F ?_)
    | refine vp F (c2) ?_)
  all_goals first
    | exact ⟨rfl,rfl,(Sv0,15),rfl,e0 _ (by decide)⟩
    | exact ⟨rfl,rfl,(Sv0,16),rfl,e0 _ (by decide)⟩
    | skip
  refine Qh (fun r:Re s=>⟨56,0,[(4,.ptr 1 0),(2,.ptr 0 0),(1,.int .i64 tx)],[⟨84,true,r.s.d⟩,⟨84,true,Zv⟩]⟩) (fun r=>rbM tx r.s) ⟨s,hs,Ev.refl _⟩ (gc [0,1]) ?_
  rintro ⟨s1,sm,ev⟩
  dsimp only
  unfold Zv
  have d1:=Qm7 s1 sm tx
  have d2:=Qrg s1.k sm.1 tx
  have d3:=fun n=>Qej s1 sm n
  refine rn F ?_
  repeat' (first
    | with_reducible exact ⟨⟩
    | (refine sB F ?_ ?_<;>intro hZ)
    | (refine Qk (d1) rfl ?_; rintro b2 -; refine rn F ?_)
    | (refine Qk (d2) rfl ?_; rintro ⟨k1,r1⟩ hq; refine rn F ?_)
    | (refine Qk (d3 _) rfl ?_; rintro ⟨s2,e2⟩ hq2; refine rn F ?_)
    | (refine Qd (id:=10) [0,1,2] [⟨[],[],3,[1,2],[]⟩,⟨[],[],4,[],[]⟩] (by kernel_rfl) (by kernel_rfl) ?_; refine rn F ?_))
  all_goals first
    | exact ⟨rfl,rfl,(s1,0),rfl,sm,fun _=>ev⟩
    | exact ⟨rfl,rfl,(Sv0,e2),rfl,e0 _ (by assumption)⟩
    | exact ⟨rfl,rfl,(Sv0,r1.er),rfl,e0 _ (hq.2.2.2.2 (by assumption))⟩
    | skip
  · obtain ⟨v,_,g1,g2,g3⟩:=hq.2.2.1 (by first | assumption | omega)
    have q2:=hq2.2 (by dsimp only; omega)
    dsimp only at g1 g3 q2
    rw [g1] at g3 q2
    exact ⟨⟨s2,hq2.1,ev.trans q2.1⟩,Qnk q2.1 q2.2.1 g2 g3 q2.2.2,(gc [0,1])⟩
  · have q:=hq.2.2.2.1 (by dsimp only; omega) (by dsimp only; omega)
    exact ⟨⟨⟨k1,s1.v⟩,⟨hq.1,sm.2⟩,ev.trans hq.2.1⟩,QvB q hq.1.1,(gc [0,1])⟩
end
section
attribute [local go_sem] Qbb
@[go_sem] def srD (a:Sv × Rs):DV:=.tup [.agg a.1.d,.agg a.2.d]
def QEk (s:Sv) (a:Sv × Rs):Prop:=a.1.sm/\Ev s.k.lg a.1.k.lg
def Zr:List DV:=[.int .i64 0,.int .i64 0,.int .i64 0,.bool false,.pv (.str []),.int .i64 0]
theorem QBH (s:Sv) (hs:s.sm) (tx:Int) (a:Ac):VCalls prog 117 [.agg s.d,.int .i64 tx,.agg a.d] [] (QF srD (QEk s)):=by
  refine dk Tryz.func117 ?_
  (unfold Tryz.f117; refine rn trivial ?_)
  refine Qh (fun r:Re s=>⟨79,0,[(7,.ptr 3 0),(6,.ptr 2 0),(5,.ptr 1 0),(3,.ptr 0 0),(1,.int .i64 tx)],[⟨84,true,r.s.d⟩,⟨141,true,a.d⟩,⟨84,true,Zv⟩,⟨138,true,Zr⟩]⟩) (fun r=>inP r.s.k.pl.fs a.pg) ⟨s,hs,Ev.refl _⟩ (gc [0,1,2,3]) ?_
  rintro ⟨s1,sm,ev⟩
  dsimp only
  unfold Zv Zr
  have d1:=QBO s1.k sm.1 tx a
  have d2:=fun (k:Kn) (hk:k.sm)=>Qej ⟨k,s1.v⟩ ⟨hk,sm.2⟩
  have d3:=fun (k:Kn) (hk:k.sm)=>Qm7 ⟨k,s1.v⟩ ⟨hk,sm.2⟩ tx
  have d4:=fun (k:Kn) (hk:k.sm)=>Ql5 ⟨k,s1.v⟩ ⟨hk,sm.2⟩ tx
  refine rn F ?_
  repeat' (first
    | with_reducible exact ⟨⟩
    | (refine sG F ?_ ?_<;>intro hZ)
    | (refine sB F ?_ ?_<;>intro hZ)
    | (refine Qk (d1) rfl ?_; rintro ⟨k1,r1⟩ hq; refine rn F ?_)
    | (refine Qk (d2 k1 hq.1 _) rfl ?_; rintro ⟨s2,e2⟩ hq2; refine rn F ?_)
    | refine vp F (Qaa _) ?_
    | (refine Qk (d3 k1 hq.1) rfl ?_; rintro b -; refine rn F ?_)
    | (refine Qk (d4 k1 hq.1) rfl ?_; rintro ⟨s3,e3⟩ hq3; refine rn F ?_)
    | (refine Qd (id:=6) [0,1] [⟨[],[],2,[0],[]⟩,⟨[],[],3,[1],[]⟩,⟨[],[],4,[],[]⟩] (by kernel_rfl) (by kernel_rfl) ?_; refine rn F ?_)
    | (refine Qd (id:=12) [0,1] [⟨[],[],2,[0],[]⟩,⟨[],[],3,[1],[]⟩,⟨[],[],4,[],[]⟩] (by kernel_rfl) (by kernel_rfl) ?_; refine rn F ?_)
    | (refine Qd (id:=14) [0,1] [⟨[],[],2,[1],[]⟩,⟨[],[],3,[],[]⟩] (by kernel_rfl) (by kernel_rfl) ?_; refine rn F ?_))
  all_goals first
    | exact ⟨rfl,rfl,(⟨k1,s1.v⟩,QaH _),rfl,⟨hq.1,sm.2⟩,ev.trans hq.2.1⟩
    | exact ⟨rfl,rfl,(⟨k1,s1.v⟩,r1),rfl,⟨hq.1,sm.2⟩,ev.trans hq.2.1⟩
    | (have q3:=hq3.2 (by dsimp only; omega)
       exact ⟨rfl,rfl,(s3,r1),rfl,hq3.1,(ev.trans hq.2.1).trans q3⟩)
    | skip
  obtain ⟨g1,g2,g3⟩:=hq.2.2 (by first | assumption | (dsimp only; omega))
  have q2:=hq2.2 (by dsimp only; omega)
  dsimp only at g1 g2 g3 q2
  rw [g2] at q2
  refine ⟨⟨s2,hq2.1,(ev.trans hq.2.1).trans q2.1⟩,?_,(gc [0,1,2,3])⟩
  unfold inP
  dsimp only
  rw [if_pos q2.2.2,if_neg (by omega)]
  omega
@[go_sem] def QEi (a:Sv × Int × Int):DV:=.tup [.agg a.1.d,.int .i64 a.2.1,.int .i64 a.2.2]
theorem Qrl (s:Sv) (hs:s.sm):VCalls prog 89 [.agg s.d] [] (QF QEi fun a=>a.1.sm/\(a.2.2 = 0->Ev s.k.lg a.1.k.lg)):=by
  refine dk Tryz.func89 ?_
  have c1:=QrA s.k hs.1
  (unfold Tryz.f89; refine rn trivial ?_)
  refine rn F ?_
  repeat' (first
    | with_reducible exact ⟨⟩
    | (refine sB F ?_ ?_<;>intro hZ)
    | (refine Qk (c1) rfl ?_; rintro ⟨k1,n1,e1⟩ hq; refine rn F ?_))
  all_goals first
    | exact ⟨rfl,rfl,(Sv0,0,e1),rfl,Qc9,fun h=>absurd h (by assumption)⟩
    | exact ⟨rfl,rfl,(⟨k1,s.v⟩,n1,0),rfl,⟨hq.1,hs.2⟩,fun _=>by have q:=(hq.2 (by dsimp only; omega)).2.2; dsimp only at q; subst q; exact Ev.refl _⟩
    | skip
theorem mkR:∀ n:Nat,V.mk [.pv (.lit (.int .i64 0)),.pv (.lit (.int .i64 0)),.pv (.lit (.int .i64 0))] n = cells Qb1 (List.replicate n Rw0)
  | 0=>rfl
  | n + 1=>by
    show _ ++ V.mk _ n = _
    rw [mkR n,List.replicate_succ]; rfl
theorem Qnc (n:Int):VCalls prog 86 [.int .i64 n] [] (QF (fun a:List Rw × Int=>.tup [.agg [.pv (.sl (fz Qb1 a.1))],.int .i64 a.2]) fun a=>a.1.length<=64):=by
  refine dk Tryz.func86 ?_
  (unfold Tryz.f86; refine rn trivial ?_)
  refine rn F ?_
  repeat' (first
    | with_reducible exact ⟨⟩
    | (refine sG F ?_ ?_<;>intro hZ)
    | (refine sB F ?_ ?_<;>intro hZ))
  all_goals first
    | exact ⟨rfl,rfl,([],1),rfl,Nat.zero_le _⟩
    | skip
  obtain ⟨m,rfl⟩:∃ m:Nat,n = m:=⟨n.toNat,by omega⟩
  have hc:((0:Int)<=(m:Int)/\(m:Int)<=(m:Int)/\((24:Nat):Int) * (m:Int)<=281474976710656/\(m:Int)<=9223372036854775807) = True:=eq_true ⟨by omega,by omega,by omega,by omega⟩
  have hmk:=mkR m
  have hlr:(List.replicate m Rw0).length = m:=List.length_replicate
  refine rn (And.intro @hc (And.intro @hmk @hlr)) ?_
  exact ⟨rfl,rfl,(List.replicate m Rw0,0),rfl,by dsimp only; rw [hlr]; omega⟩
end
section
attribute [local go_sem] Qbb
def Lg1:Lg:=⟨1,[],0⟩
theorem QC0:lgB Lg1 = true:=by decide
theorem Qy4:VCalls prog 87 [] [] (Ret (.agg Lg1.c)):=by
  refine dk Tryz.func87 ?_
  (unfold Tryz.f87; refine rn trivial ?_)
  rfl
theorem Qnp (n:Int):(Qmf n).1.fs = []:=by unfold Qmf; split<;>rfl
theorem Qrh (s:Sv) (hs:s.sm) (n:Int):VCalls prog 92 [.agg s.d,.int .i64 n] [] (QF svD (evQ s)):=by
  refine dk Tryz.func92 ?_
  have c1:=Qvs s.k hs.1 n
  have c2:=Qcr s.k.pl (Nat.le_trans hs.1.2.1 (by decide)) n
  have c3:=fun k hk x=>Qm5 s hs.2 k hk x
  have e0:∀ e,e ≠ 0->evQ s (Sv0,e):=fun e h=>⟨Qc9,fun h2=>absurd h2 h⟩
  (unfold Tryz.f92; refine rn trivial ?_)
  refine Qk c1 rfl ?_
  rintro ⟨k1,x,e⟩ hq
  by_cases he:e = 0
  rotate_left
  · skip
    have F:=@he
    refine rn F ?_
    exact ⟨rfl,rfl,(Sv0,e),rfl,e0 _ he⟩
  have q:=hq.2 he
  subst he
  rcases Qcw s.k.pl n with hn | ⟨_,i,hi,hfi,_⟩
  · have:=q.2; omega
  rw [hfi] at c2
  have hg:=QbP s.k.pl.fs i hi
  generalize s.k.pl.fs.getD i Fm0 = f at *
  have F:=@hg
  refine rn F ?_
  repeat' (first
    | with_reducible exact ⟨⟩
    | (refine sB F ?_ ?_<;>intro hZ)
    | refine vp F (c2) ?_
    | (refine Qk (c3 k1 hq.1 x) rfl ?_; rintro ⟨s2,e2⟩ hq2; refine rn F ?_)
    | (refine Qd (id:=4) [0,1,2,3,4,5,6,7] [⟨[],[],8,[0,1,2,3,4,5],[9,10,11,12]⟩] (by kernel_rfl) (by kernel_rfl) ?_; refine rn F ?_))
  all_goals first
    | exact ⟨rfl,rfl,(s,0),rfl,hs,fun _=>Ev.refl _⟩
    | exact ⟨rfl,rfl,(s2,e2),rfl,hq2.1,fun h=>q.1.trans (hq2.2 h).1⟩
    | skip
end
section
attribute [local go_sem] Qbb
@[go_sem] def tbD (a:Tx × Bool):DV:=.tup [.agg a.1.d,.bool a.2]
theorem Qki (k:Kn) (h:k.sm) (tx:Int):VCalls prog 141 [.agg k.d,.int .i64 tx] [] (QF tbD fun _=>True):=by
  refine dk Tryz.func141 ?_
  have c1:=QQ k h
  have c2:=QbV k.tx (Nat.le_trans h.2.2.2.1.1 (by decide)) tx
  rcases Q8 k.tx tx with hn | ⟨i,hil,hid,_⟩
  · rw [hn] at c2
    (unfold Tryz.f141; refine rn trivial ?_)
    refine rn F ?_
    repeat' (first
      | with_reducible exact ⟨⟩
      | (refine sB F ?_ ?_<;>intro hZ)
      | (refine Qk (c1) rfl ?_; rintro b -; refine rn F ?_)
      | refine vp F (c2) ?_)
    all_goals exact ⟨rfl,rfl,(Tx0,false),rfl,trivial⟩
  rw [hid] at c2
  have hg:=QdV k.tx i hil
  (unfold Tryz.f141; refine rn trivial ?_)
  have F:=@hg
  refine rn F ?_
  repeat' (first
    | with_reducible exact ⟨⟩
    | (refine sB F ?_ ?_<;>intro hZ)
    | (refine Qk (c1) rfl ?_; rintro b hb; refine rn F ?_)
    | refine vp F (c2) ?_)
  all_goals first
    | exact ⟨rfl,rfl,(k.tx.getD i Tx0,true),rfl,trivial⟩
    | exact ⟨rfl,rfl,(Tx0,false),rfl,trivial⟩
    | skip
@[go_sem] def QE7 (a:Int × Int × Int × Bool):DV:=.tup [.int .i64 a.1,.agg [.int .i64 a.2.1,.int .i64 a.2.2.1],.bool a.2.2.2]
theorem QoH (k:Kn) (h:k.sm) (tx:Int):VCalls prog 118 [.agg k.d,.int .i64 tx] [] (QF QE7 fun _=>True):=by
  refine dk Tryz.func118 ?_
  have h3:=h.2.2.1
  have c1:=Qdj k.lk (by omega) tx
  have c2:=Qne k.lk (by omega) tx
  have c3:=fun n=>Qki k h n
  (unfold Tryz.f118; refine rn trivial ?_)
  refine rn F ?_
  repeat' (first
    | with_reducible exact ⟨⟩
    | (refine sB F ?_ ?_<;>intro hZ)
    | (refine Qk (c1) rfl ?_; rintro ⟨g,b⟩ -; refine rn F ?_)
    | (refine Qk (c2) rfl ?_; rintro l hl; refine rn F ?_))
  all_goals first
    | exact ⟨rfl,rfl,(0,0,0,false),rfl,trivial⟩
    | skip
  refine Qh (fun s:To l.length=>⟨44,0,[(28,.int .i64 s.i),(27,.int .i64 l.length),(26,.pv (.sl (fz Q0 l))),(7,.ptr 2 0),(5,.ptr 1 0),(2,.ptr 0 0)],[⟨41,true,k.d⟩,⟨197,true,[.int .i64 0,.int .i64 0]⟩,⟨222,true,g.d⟩]⟩) (fun s=>l.length - s.i) ⟨0,Nat.zero_le _⟩ (gc [0,1,2]) ?_
  rintro ⟨i,hi⟩
  dsimp only
  have hx:=fun h:i < l.length=>QZ l i h
  have F:=@hx
  refine rn F ?_
  repeat' (first
    | with_reducible exact ⟨⟩
    | (refine sB F ?_ ?_<;>intro hZ)
    | (refine Qk (c3 _) rfl ?_; rintro ⟨t,b3⟩ -; refine rn F ?_)
    | (refine Qd (id:=9) [0,1,2] [⟨[],[],3,[1,2],[]⟩,⟨[],[],4,[],[]⟩,⟨[],[],5,[],[]⟩] (by kernel_rfl) (by kernel_rfl) ?_; refine rn F ?_))
  all_goals first
    | exact ⟨rfl,rfl,(_,g.pg,g.sl,true),rfl,trivial⟩
    | exact ⟨rfl,rfl,(0,0,0,false),rfl,trivial⟩
    | exact ⟨⟨i + 1,by omega⟩,by dsimp only; omega,(gc [0,1,2])⟩
    | skip
theorem Qvh (k:Kn) (h:k.sm):VCalls prog 113 [.agg k.d] [] (QF ilD fun l=>l.length<=65):=by
  refine dk Tryz.func113 ?_
  have h4:=h.2.2.2.1.1
  have c3:=fun n=>Qki k h n
  (unfold Tryz.f113; refine rn trivial ?_)
  refine VLoop.nilOwn 3 3 1 rfl ?_
  refine rn trivial ?_
  refine Qh (fun s:{s:Nat × List Int // s.1<=k.tx.length/\s.2.length<=s.1}=>⟨36,0,[(4,.int .i64 s.1.1),(3,.own 1 1 0 s.1.2.length),(1,.ptr 0 0)],[⟨41,true,k.d⟩,⟨3,true,cells Q0 s.1.2⟩]⟩) (fun s=>k.tx.length - s.1.1) ⟨(0,[]),by simp⟩ (gc [0,1]) ?_
  rintro ⟨⟨i,out⟩,hi,ho⟩
  dsimp only at hi ho |-
  have hg:=fun h:i < k.tx.length=>QdV k.tx i h
  have hb:(out.length + 1) * 8<=140737488355328:=by omega
  have F:=(And.intro @hg @hb)
  refine rn F ?_
  repeat' (first
    | with_reducible exact ⟨⟩
    | (refine sB F ?_ ?_<;>intro hZ)
    | (refine Qk (c3 _) rfl ?_; rintro ⟨t,b3⟩ -; refine rn F ?_)
    | (refine Qd (id:=5) [0,1,2,3,4,5,6] [⟨[11],[],7,[1,2,3,4,5],[8,9,10]⟩,⟨[11],[11],12,[10],[]⟩,⟨[],[],13,[],[]⟩] (by kernel_rfl) (by kernel_rfl) ?_; refine rn F ?_))
  all_goals first
    | exact ⟨rfl,rfl,out,rfl,by omega⟩
    | exact ⟨⟨(i + 1,out),by dsimp only; omega,by dsimp only; omega⟩,by dsimp only; omega,(gc [0,1])⟩
    | exact ⟨⟨(i + 1,out ++ [(k.tx.getD i Tx0).id]),by dsimp only; omega,by simp; omega⟩,by dsimp only; omega,by dsimp only; rw [List.length_append]; exact (gc [0,4])⟩
    | skip
@[go_sem] def QEQ (a:Sv × Nat × Int):DV:=.tup [.agg a.1.d,.int .i64 a.2.1,.int .i64 a.2.2]
def ceQ (s:Sv) (a:Sv × Nat × Int):Prop:=a.1.sm/\Ev s.k.lg a.1.k.lg/\a.2.1 + s.k.lg.es.length<=a.1.k.lg.es.length
structure Rn (s0:Sv) where
  s:Sv
  n:Nat
  sm:s.sm
  ev:Ev s0.k.lg s.k.lg
  up:n + s0.k.lg.es.length<=s.k.lg.es.length
theorem Qu6 (s:Sv) (hs:s.sm) (tx pg sl:Int):VCalls prog 119 [.agg s.d,.int .i64 tx,.agg [.int .i64 pg,.int .i64 sl]] [] (QF QEQ (ceQ s)):=by
  refine dk Tryz.func119 ?_
  (unfold Tryz.f119; refine rn trivial ?_)
  refine Qh (fun r:Rn s=>⟨57,0,[(9,.int .i64 r.n),(6,.ptr 2 0),(5,.ptr 1 0),(3,.ptr 0 0),(1,.int .i64 tx)],[⟨84,true,r.s.d⟩,⟨197,true,[.int .i64 pg,.int .i64 sl]⟩,⟨84,true,Zv⟩]⟩) (fun r=>2 * (4096 - r.s.k.lg.es.length) + inP r.s.k.pl.fs pg) ⟨s,0,hs,Ev.refl _,by omega⟩ (gc [0,1,2]) ?_
  rintro ⟨s1,n,sm,ev,up⟩
  have hle:=sm.1.1
  dsimp only
  unfold Zv
  have d1:=Qzc s1.k sm.1 tx pg sl
  have d2:=fun p=>Qej s1 sm p
  refine rn F ?_
  repeat' (first
    | with_reducible exact ⟨⟩
    | (refine sB F ?_ ?_<;>intro hZ)
    | (refine Qk (d1) rfl ?_; rintro ⟨k1,r1⟩ hq; refine rn F ?_)
    | (refine Qk (d2 _) rfl ?_; rintro ⟨s2,e2⟩ hq2; refine rn F ?_)
    | (refine Qd (id:=6) [0,1,2,3] [⟨[],[],4,[1,2,3],[]⟩,⟨[],[],5,[2,3],[]⟩,⟨[],[],6,[],[]⟩] (by kernel_rfl) (by kernel_rfl) ?_; refine rn F ?_))
  all_goals first
    | exact ⟨rfl,rfl,(s1,n,_),rfl,sm,ev,up⟩
    | skip
  · obtain ⟨g1,g2,g3⟩:=hq.2.2.1 (by first | assumption | (dsimp only; omega))
    have q2:=hq2.2 (by dsimp only; omega)
    dsimp only at g1 g2 g3 q2
    rw [g2] at q2
    have hl:=q2.1.len
    refine ⟨⟨s2,n,hq2.1,ev.trans q2.1,by omega⟩,?_,(gc [0,1,2])⟩
    unfold inP
    dsimp only
    rw [if_pos q2.2.2,if_neg (by omega)]
    omega
  · have q:=hq.2.2.2 (by dsimp only; omega) (by dsimp only; omega) (by dsimp only; omega)
    have hk:=hq.1.1
    have h1:=Qxr k1.pl.fs pg
    dsimp only at q hk
    exact ⟨⟨⟨k1,s1.v⟩,n + 1,⟨hq.1,sm.2⟩,ev.trans hq.2.1,by dsimp only; omega⟩,by dsimp only; omega,(gc [0,1,2])⟩
end
section
attribute [local go_sem] Qbb
theorem QBP (s:Sv) (hs:s.sm) (tx:Int) (a:Ac):VCalls prog 104 [.agg s.d,.int .i64 tx,.agg a.d] [] (QF srD (QEk s)):=by
  refine dk Tryz.func104 ?_
  (unfold Tryz.f104; refine rn trivial ?_)
  refine Qh (fun r:Re s=>⟨58,0,[(7,.ptr 3 0),(6,.ptr 2 0),(5,.ptr 1 0),(3,.ptr 0 0),(1,.int .i64 tx)],[⟨84,true,r.s.d⟩,⟨141,true,a.d⟩,⟨84,true,Zv⟩,⟨138,true,Zr⟩]⟩) (fun r=>4096 - r.s.k.lg.es.length) ⟨s,hs,Ev.refl _⟩ (gc [0,1,2,3]) ?_
  rintro ⟨s1,sm,ev⟩
  dsimp only
  unfold Zv Zr
  have d1:=QBH s1 sm tx a
  have d2:=fun (t:Sv) (h:t.sm)=>QoH t.k h.1 tx
  have d3:=fun (t:Sv) (h:t.sm)=>Qu6 t h
  refine rn F ?_
  repeat' (first
    | with_reducible exact ⟨⟩
    | (refine sB F ?_ ?_<;>intro hZ)
    | (refine Qk (d1) rfl ?_; rintro ⟨s2,r2⟩ hq; refine rn F ?_)
    | (refine Qk (d2 s2 hq.1) rfl ?_; rintro ⟨x,p,q,b⟩ -; refine rn F ?_)
    | (refine Qk (d3 s2 hq.1 _ _ _) rfl ?_; rintro ⟨s3,n,e3⟩ hq3; refine rn F ?_)
    | refine vp F (Qaa _) ?_
    | (refine Qd (id:=4) [0,1] [⟨[],[],2,[1],[]⟩,⟨[],[],3,[],[]⟩] (by kernel_rfl) (by kernel_rfl) ?_; refine rn F ?_)
    | (refine Qd (id:=7) [0,1] [⟨[],[],2,[1],[]⟩,⟨[],[],3,[],[]⟩] (by kernel_rfl) (by kernel_rfl) ?_; refine rn F ?_)
    | (refine Qd (id:=11) [0,1] [⟨[],[],2,[0],[]⟩,⟨[],[],3,[1],[]⟩,⟨[],[],4,[],[]⟩] (by kernel_rfl) (by kernel_rfl) ?_; refine rn F ?_)
    | (refine Qd (id:=13) [0,1] [⟨[],[],2,[1],[]⟩,⟨[],[],3,[],[]⟩] (by kernel_rfl) (by kernel_rfl) ?_; refine rn F ?_))
  all_goals first
    | exact ⟨rfl,rfl,(s2,r2),rfl,hq.1,ev.trans hq.2⟩
    | exact ⟨rfl,rfl,(s3,QaH e3),rfl,hq3.1,(ev.trans hq.2).trans hq3.2.1⟩
    | exact ⟨rfl,rfl,(s3,r2),rfl,hq3.1,(ev.trans hq.2).trans hq3.2.1⟩
    | skip
  have h1:=hq.2.len
  have h2:=hq3.2.2
  have h3:=hq3.1.1.1
  dsimp only at h1 h2 h3
  exact ⟨⟨s3,hq3.1,(ev.trans hq.2).trans hq3.2.1⟩,by dsimp only; omega,(gc [0,1,2,3])⟩
@[go_sem] def QEU (a:Sv × Bool × Int):DV:=.tup [.agg a.1.d,.bool a.2.1,.int .i64 a.2.2]
def wkQ (s:Sv) (a:Sv × Bool × Int):Prop:=a.1.sm/\(a.2.2 = 0->Ev s.k.lg a.1.k.lg)
theorem QyG (s:Sv) (hs:s.sm):VCalls prog 96 [.agg s.d] [] (QF QEU (wkQ s)):=by
  refine dk Tryz.func96 ?_
  have c1:=QQ s.k hs.1
  have c2:=fun n=>Qej s hs n
  have c3:=Qvh s.k hs.1
  have hg:=fun h:0 < s.k.la.length=>Qfm s.k.la 0 h
  have e0:∀ e,e ≠ 0->wkQ s (Sv0,false,e):=fun e h=>⟨Qc9,fun h2=>absurd h2 h⟩
  (unfold Tryz.f96; refine rn trivial ?_)
  have F:=@hg
  refine rn F ?_
  repeat' (first
    | with_reducible exact ⟨⟩
    | (refine sB F ?_ ?_<;>intro hZ)
    | (refine Qk (c1) rfl ?_; rintro b -; refine rn F ?_)
    | (refine Qk (c2 _) rfl ?_; rintro ⟨s2,e2⟩ hq; refine rn F ?_)
    | (refine Qk (c3) rfl ?_; rintro l hl; refine rn F ?_)
    | (refine Qd (id:=4) [0,1,2,3,4,5,6] [⟨[11],[],7,[1,2,3,4,5],[8,9,10]⟩,⟨[11],[11],12,[10],[]⟩,⟨[],[],13,[],[]⟩] (by kernel_rfl) (by kernel_rfl) ?_; refine rn F ?_))
  all_goals first
    | exact ⟨rfl,rfl,(Sv0,false,15),rfl,e0 _ (by decide)⟩
    | exact ⟨rfl,rfl,(s,false,0),rfl,hs,fun _=>Ev.refl _⟩
    | exact ⟨rfl,rfl,(s2,_,e2),rfl,hq.1,fun h=>(hq.2 h).1⟩
    | skip
  have hg0:=fun h:0 < l.length=>QZ l 0 h
  generalize l.getD 0 0 = tx at *
  refine Qh (fun r:Re s=>⟨77,0,[(7,.pv (.sl (fz Q0 l))),(2,.ptr 1 0),(1,.ptr 0 0)],[⟨84,true,r.s.d⟩,⟨84,true,Zv⟩]⟩) (fun r=>rbM tx r.s) ⟨s,hs,Ev.refl _⟩ (gc [0,1]) ?_
  rintro ⟨s1,sm,ev⟩
  dsimp only
  unfold Zv
  have d2:=Qrg s1.k sm.1 tx
  have d3:=fun n=>Qej s1 sm n
  have F:=@hg0
  refine rn F ?_
  repeat' (first
    | with_reducible exact ⟨⟩
    | (refine sB F ?_ ?_<;>intro hZ)
    | (refine Qk (d2) rfl ?_; rintro ⟨k1,r1⟩ hq; refine rn F ?_)
    | (refine Qk (d3 _) rfl ?_; rintro ⟨s2,e2⟩ hq2; refine rn F ?_)
    | (refine Qd (id:=9) [0,1,2,3,4] [⟨[9,10],[],5,[0,2,3],[6,7,8]⟩,⟨[9,10],[9],11,[8],[]⟩,⟨[10],[10],12,[],[]⟩] (by kernel_rfl) (by kernel_rfl) ?_; refine rn F ?_)
    | (refine Qd (id:=11) [0,1,2] [⟨[],[],3,[1,2],[]⟩,⟨[],[],4,[1,2],[]⟩,⟨[],[],5,[],[]⟩] (by kernel_rfl) (by kernel_rfl) ?_; refine rn F ?_))
  all_goals first
    | exact ⟨rfl,rfl,(Sv0,false,e2),rfl,e0 _ (by assumption)⟩
    | exact ⟨rfl,rfl,(Sv0,false,r1.er),rfl,e0 _ (hq.2.2.2.2 (by assumption))⟩
    | exact ⟨rfl,rfl,(⟨k1,s1.v⟩,true,0),rfl,⟨hq.1,sm.2⟩,fun _=>ev.trans hq.2.1⟩
    | skip
  obtain ⟨v,_,g1,g2,g3⟩:=hq.2.2.1 (by first | assumption | (dsimp only; omega))
  have q2:=hq2.2 (by dsimp only; omega)
  dsimp only at g1 g3 q2
  rw [g1] at g3 q2
  exact ⟨⟨s2,hq2.1,ev.trans q2.1⟩,Qnk q2.1 q2.2.1 g2 g3 q2.2.2,(gc [0,1])⟩
end
@[go_sem] def stD (s:List UInt8):DV:=.pv (.str s)
theorem Qm8 (s:List UInt8) (hs:s.length<=1000000000) (n:Int) (k:Nat) (h1:1<=k) (h8:k<=8):VCalls prog 156 [.pv (.str s),.int .i64 n,.int .i64 k] [] (QF stD fun t=>t.length = s.length + k):=
  (Qb7 s hs n k h1 h8).toS (Qao s n k) rfl (Qq s n k)
theorem Qvb (s:List UInt8) (hs:s.length<=1000000000) (n:Int):VCalls prog 156 [.pv (.str s),.int .i64 n,.int .i64 1] [] (QF stD fun t=>t.length = s.length + 1):=Qm8 s hs n 1 (by omega) (by omega)
theorem Qva (s:List UInt8) (hs:s.length<=1000000000) (n:Int):VCalls prog 156 [.pv (.str s),.int .i64 n,.int .i64 2] [] (QF stD fun t=>t.length = s.length + 2):=Qm8 s hs n 2 (by omega) (by omega)
theorem QyU (s:List UInt8) (hs:s.length<=1000000000) (n:Int):VCalls prog 156 [.pv (.str s),.int .i64 n,.int .i64 4] [] (QF stD fun t=>t.length = s.length + 4):=Qm8 s hs n 4 (by omega) (by omega)
theorem Qkd (s:List UInt8) (hs:s.length<=1000000000) (n:Int):VCalls prog 156 [.pv (.str s),.int .i64 n,.int .i64 8] [] (QF stD fun t=>t.length = s.length + 8):=Qm8 s hs n 8 (by omega) (by omega)
theorem QhQ (s:List UInt8) (hs:s.length<=800000000) (l:List Int) (hl:l.length<=100000):VCalls prog 209 [.pv (.str s),.pv (.sl (fz Q0 l))] [] (QF stD fun t=>t.length<=s.length + 800000):=by
  refine dd Tryz.func209 ?_
  (unfold Tryz.f209; refine rn trivial ?_)
  refine Qh (fun r:{r:Nat × List UInt8 // r.1<=l.length/\r.2.length = s.length + 8 * r.1}=>⟨19,0,[(5,.int .i64 r.1.1),(1,.pv (.sl (fz Q0 l))),(0,.pv (.str r.1.2))],[]⟩) (fun r=>l.length - r.1.1) ⟨(0,s),by simp⟩ (gc []) ?_
  rintro ⟨⟨i,t⟩,hi,ht⟩
  dsimp only at hi ht |-
  have hg:=fun h:i < l.length=>QZ l i h
  have c1:=Qkd t (by omega)
  have F:=@hg
  refine rn F ?_
  repeat' (first
    | with_reducible exact ⟨⟩
    | (refine sB F ?_ ?_<;>intro hZ)
    | (refine Qk (c1 _) rfl ?_; rintro u hu; refine rn F ?_))
  all_goals first
    | exact ⟨⟨(i + 1,u),by dsimp only; omega,by dsimp only; omega⟩,by dsimp only; omega,(gc [])⟩
    | exact ⟨rfl,rfl,t,rfl,by omega⟩
    | skip
theorem QyM (l:List Tx) (hl:smN 65 l):VCalls prog 166 [.pv (.sl (fz Qah l))] [] (QF siD fun a=>a.1.length<=200000000):=by
  refine dd Tryz.func166 ?_
  have c1:=QbC l (hl.smL (by omega))
  have h1:=hl.1
  have c2:=Qva [] (by simp)
  generalize QdM l = b at *
  (unfold Tryz.f166; refine rn trivial ?_)
  refine rn F ?_
  repeat' (first
    | with_reducible exact ⟨⟩
    | (refine sB F ?_ ?_<;>intro hZ)
    | refine vp F (c1) ?_
    | (refine Qk (c2 _) rfl ?_; rintro u hu; refine rn F ?_))
  all_goals first
    | exact ⟨rfl,rfl,([],15),rfl,by simp⟩
    | skip
  refine Qh (fun r:{r:Nat × List UInt8 // r.1<=l.length/\r.2.length<=2 + 1600024 * r.1}=>⟨56,0,[(5,.int .i64 r.1.1),(4,.pv (.str r.1.2)),(0,.pv (.sl (fz Qah l)))],[]⟩) (fun r=>l.length - r.1.1) ⟨(0,u),by simp at hu |-; omega⟩ (gc []) ?_
  rintro ⟨⟨i,t⟩,hi,ht⟩
  dsimp only at hi ht |-
  have hg:=fun h:i < l.length=>QdV l i h
  have hss:i < l.length->(l.getD i Tx0).l.length<=100000/\(l.getD i Tx0).s.length<=100000:=fun h=>by rw [Qn _ _ h]; exact hl.2 _ (List.getElem_mem h)
  generalize l.getD i Tx0 = x at *
  by_cases hil:i < l.length
  rotate_left
  · skip
    have F:=@hg
    refine rn F ?_
    exact ⟨rfl,rfl,(t,0),rfl,by dsimp only; omega⟩
  obtain ⟨s1,s2⟩:=hss hil
  have F:=@hg
  refine rn F ?_
  repeat' (first
    | with_reducible exact ⟨⟩
    | (refine Qk (QyU t (by omega) x.id) rfl ?_; rintro u1 hu1; refine rn F ?_)
    | (refine Qk (Qvb u1 (by omega) x.st) rfl ?_; rintro u2 hu2; refine rn F ?_)
    | (refine Qk (Qkd u2 (by omega) x.n) rfl ?_; rintro u3 hu3; refine rn F ?_)
    | (refine Qk (Qkd u3 (by omega) x.b) rfl ?_; rintro u4 hu4; refine rn F ?_)
    | (refine Qk (Qva u4 (by omega) _) rfl ?_; rintro u5 hu5; refine rn F ?_)
    | (refine Qk (QhQ u5 (by omega) x.l s1) rfl ?_; rintro u6 hu6; refine rn F ?_)
    | (refine Qk (Qvb u6 (by omega) x.s.length) rfl ?_; rintro u7 hu7; refine rn F ?_)
    | (refine Qk (QhQ u7 (by omega) x.s s2) rfl ?_; rintro u8 hu8; refine rn F ?_)
    | (refine Qd (id:=12) [0,1,2,3,5,6] [⟨[],[],4,[1,2,5,6],[]⟩,⟨[],[],7,[0,1,2,3,5],[]⟩,⟨[],[],8,[],[]⟩] (by kernel_rfl) (by kernel_rfl) ?_; refine rn F ?_)
    | (refine Qd (id:=13) [0,1,2,3,5,6] [⟨[],[],4,[1,2,5,6],[]⟩,⟨[],[],7,[0,1,2,3,5],[]⟩,⟨[],[],8,[],[]⟩] (by kernel_rfl) (by kernel_rfl) ?_; refine rn F ?_))
  all_goals first
    | exact ⟨⟨(i + 1,u8),hil,Nat.le_trans (show u8.length<=(2 + 1600024 * i) + 1600024 by omega) (by rw [Nat.mul_succ]; exact Nat.le_of_eq (Nat.add_assoc _ _ _))⟩,by dsimp only; omega,(gc [])⟩
    | skip
theorem Qvm (l:List Rw) (hl:l.length<=64):VCalls prog 167 [.agg [.pv (.sl (fz Qb1 l))]] [] (QF siD fun a=>a.1.length<=2000):=by
  refine dd Tryz.func167 ?_
  have c1:=Qa7 l (by omega)
  have c2:=Qva [] (by simp)
  generalize ixB l = b at *
  (unfold Tryz.f167; refine rn trivial ?_)
  refine rn F ?_
  repeat' (first
    | with_reducible exact ⟨⟩
    | (refine sB F ?_ ?_<;>intro hZ)
    | refine vp F (c1) ?_
    | (refine Qk (c2 _) rfl ?_; rintro u hu; refine rn F ?_))
  all_goals first
    | exact ⟨rfl,rfl,([],28),rfl,by simp⟩
    | skip
  refine Qh (fun r:{r:Nat × List UInt8 // r.1<=l.length/\r.2.length<=2 + 24 * r.1}=>⟨45,0,[(5,.int .i64 r.1.1),(4,.pv (.str r.1.2)),(1,.ptr 0 0)],[⟨38,true,[.pv (.sl (fz Qb1 l))]⟩]⟩) (fun r=>l.length - r.1.1) ⟨(0,u),by simp at hu |-; omega⟩ (gc [0]) ?_
  rintro ⟨⟨i,t⟩,hi,ht⟩
  dsimp only at hi ht |-
  have hg:=fun h:i < l.length=>QkZ l i h
  generalize l.getD i Rw0 = x at *
  have F:=@hg
  refine rn F ?_
  repeat' (first
    | with_reducible exact ⟨⟩
    | (refine sB F ?_ ?_<;>intro hZ)
    | (refine Qk (Qkd t (by omega) x.lsn) rfl ?_; rintro u1 hu1; refine rn F ?_)
    | (refine Qk (Qkd u1 (by omega) x.im) rfl ?_; rintro u2 hu2; refine rn F ?_)
    | (refine Qk (Qkd u2 (by omega) x.at_) rfl ?_; rintro u3 hu3; refine rn F ?_))
  all_goals first
    | exact ⟨⟨(i + 1,u3),by dsimp only; omega,by dsimp only; omega⟩,by dsimp only; omega,(gc [0])⟩
    | exact ⟨rfl,rfl,(t,0),rfl,by dsimp only; omega⟩
    | skip
section
attribute [local go_sem] Qbn
structure Cp where
  pg:Int
  nx:Int
  tx:List Tx
  dl:List Dt
  ix:List Rw
@[go_sem] def Cp.d (c:Cp):List DV:=[.int .i64 c.pg,.int .i64 c.nx,.pv (.sl (fz Qah c.tx)),.pv (.sl (fz Qdt c.dl)),.pv (.sl (fz Qb1 c.ix))]
def Cp0:Cp:=⟨0,0,[],[],[]⟩
def Cp.sm (c:Cp):Prop:=smN 65 c.tx/\c.dl.length<=10000/\c.ix.length<=64
theorem QC1:Cp0.sm:=⟨QM _,by decide,by decide⟩
@[go_sem] def QEv (a:Cp × Int):DV:=.tup [.agg a.1.d,.int .i64 a.2]
def Zc:List DV:=[.int .i64 0,.int .i64 0,.pv (.slc []),.pv (.slc []),.pv (.slc [])]
theorem Qza (k:Kn) (h:k.sm):VCalls prog 127 [.agg k.d] [] (QF QEv fun a=>a.1.sm):=by
  refine dk Tryz.func127 ?_
  have c1:=QQ k h
  obtain ⟨h1,h2,h3,h4,h5,h6⟩:=h
  have c2:=fun n=>QfK k (by omega) n
  have c3:=Qro k.pl (by omega)
  (unfold Tryz.f127; refine rn trivial ?_)
  refine Qk c1 rfl ?_
  rintro b hb
  cases b
  · skip
    refine rn F ?_
    exact ⟨rfl,rfl,(Cp0,15),rfl,QC1⟩
  have hv:=(hb rfl).1
  refine rn F ?_
  refine VLoop.nilOwnC 2 3 190 3 rfl rfl ?_
  refine rn trivial ?_
  refine Qh (fun s:{s:Nat × List Dt // s.1<=64/\s.2.length<=65 * s.1}=>⟨62,0,[(5,.int .i64 s.1.1),(4,.ptr 2 0),(2,.ptr 1 0),(1,.ptr 0 0)],[⟨41,true,k.d⟩,⟨210,true,Zc⟩,⟨210,true,[.int .i64 k.pg,.int .i64 k.nx,.pv (.sl (fz Qah k.tx)),.own 3 3 0 s.1.2.length,.pv (.sl (fz Qb1 k.ix))]⟩,⟨190,true,cells Qdt s.1.2⟩]⟩) (fun s=>64 - s.1.1) ⟨(0,[]),by simp⟩ (gc [0,1,2,3]) ?_
  rintro ⟨⟨i,out⟩,hi,ho⟩
  dsimp only at hi ho |-
  unfold Zc
  have hb1:(out.length + 1) * 24<=140737488355328:=by omega
  have F:=@hb1
  refine rn F ?_
  repeat' (first
    | with_reducible exact ⟨⟩
    | (refine sB F ?_ ?_<;>intro hZ)
    | (refine Qk (c2 _) rfl ?_; rintro ⟨d,b2⟩ -; refine rn F ?_)
    | (refine Qk (c3) rfl ?_; rintro l hl; refine rn F ?_))
  rotate_left 2
  · exact ⟨rfl,rfl,(⟨k.pg,k.nx,k.tx,out,k.ix⟩,0),rfl,h4,by dsimp only; omega,h5⟩
  all_goals
    first
      | refine Qh (fun s:{s:Nat × List Dt // s.1<=l.length/\s.2.length<=65 * i + 1 + s.1}=>⟨62,0,[(46,.int .i64 s.1.1),(45,.int .i64 l.length),(44,.pv (.sl (fz Qdt l))),(5,.int .i64 i),(4,.ptr 2 0),(2,.ptr 1 0),(1,.ptr 0 0)],[⟨41,true,k.d⟩,⟨210,true,Zc⟩,⟨210,true,[.int .i64 k.pg,.int .i64 k.nx,.pv (.sl (fz Qah k.tx)),.own 3 3 0 s.1.2.length,.pv (.sl (fz Qb1 k.ix))]⟩,⟨190,true,cells Qdt s.1.2⟩]⟩) (fun s=>l.length - s.1.1) ⟨(0,out ++ [⟨d.pg,d.rc,d.last⟩]),by dsimp only; rw [List.length_append]; exact ⟨Nat.zero_le _,by simp; omega⟩⟩ (by dsimp only; rw [List.length_append]; exact (gc [0,1,2,6])) ?_
      | refine Qh (fun s:{s:Nat × List Dt // s.1<=l.length/\s.2.length<=65 * i + 1 + s.1}=>⟨62,0,[(46,.int .i64 s.1.1),(45,.int .i64 l.length),(44,.pv (.sl (fz Qdt l))),(5,.int .i64 i),(4,.ptr 2 0),(2,.ptr 1 0),(1,.ptr 0 0)],[⟨41,true,k.d⟩,⟨210,true,Zc⟩,⟨210,true,[.int .i64 k.pg,.int .i64 k.nx,.pv (.sl (fz Qah k.tx)),.own 3 3 0 s.1.2.length,.pv (.sl (fz Qb1 k.ix))]⟩,⟨190,true,cells Qdt s.1.2⟩]⟩) (fun s=>l.length - s.1.1) ⟨(0,out),by dsimp only; exact ⟨Nat.zero_le _,by omega⟩⟩ (gc [0,1,2,3]) ?_
    rintro ⟨⟨j,o2⟩,hj,ho2⟩
    dsimp only at hj ho2 |-
    unfold Zc
    have hy:=fun h:j < l.length=>Qfm l j h
    have hb2:(o2.length + 1) * 24<=140737488355328:=by omega
    have F:=(And.intro @hy @hb2)
    refine rn F ?_
    repeat' (first
      | with_reducible exact ⟨⟩
      | (refine sB F ?_ ?_<;>intro hZ))
  all_goals first
    | exact ⟨⟨(j + 1,o2),by dsimp only; omega,by dsimp only; omega⟩,by dsimp only; omega,(gc [0,1,2,3])⟩
    | exact ⟨⟨(j + 1,o2 ++ [⟨(l.getD j Dt0).pg,(l.getD j Dt0).rc,(l.getD j Dt0).last⟩]),by dsimp only; omega,by simp; omega⟩,by dsimp only; omega,by dsimp only; rw [List.length_append]; exact (gc [0,1,2,6])⟩
    | exact ⟨⟨(i + 1,o2),by dsimp only; omega,by dsimp only; omega⟩,by dsimp only; omega,(gc [0,1,2,3])⟩
    | skip
  all_goals skip
end
theorem QhU (c:Cp) (h:c.sm):VCalls prog 165 [.agg c.d] [] (QF boD fun _=>True):=by
  refine dd Tryz.func165 ?_
  obtain ⟨h1,h2,h3⟩:=h
  have h10:=h1.1
  have c1:=QbC c.tx (h1.smL (by omega))
  have c2:=fun n=>Qkb c.dl (by omega) n
  have c3:=Qa7 c.ix (by omega)
  generalize QdM c.tx = b1 at *
  generalize ixB c.ix = b2 at *
  (unfold Tryz.f165; refine rn trivial ?_)
  refine rn F ?_
  repeat' (first
    | with_reducible exact ⟨⟩
    | (refine sG F ?_ ?_<;>intro hZ)
    | (refine sB F ?_ ?_<;>intro hZ)
    | refine vp F (c1) ?_
    | (refine Qk (c2 _) rfl ?_; rintro b3 -; refine rn F ?_)
    | refine vp F (c3) ?_)
  all_goals first
    | exact ⟨rfl,rfl,false,rfl,trivial⟩
    | skip
  all_goals
    refine Qh (fun s:To c.tx.length=>⟨67,0,[(3,.int .i64 s.i),(1,.ptr 0 0)],[⟨210,true,c.d⟩]⟩) (fun s=>c.tx.length - s.i) ⟨0,Nat.zero_le _⟩ (gc [0]) ?_
    rintro ⟨i,hi⟩
    dsimp only
    have hg:=fun h:i < c.tx.length=>QdV c.tx i h
    have F:=@hg
    refine rn F ?_
    repeat' (first
      | with_reducible exact ⟨⟩
      | (refine sB F ?_ ?_<;>intro hZ)
      | (refine Qd (id:=6) [0,1,2,3,4,5,6,7,8] [] (by kernel_rfl) (by kernel_rfl) ?_; refine rn F ?_))
  all_goals first
    | exact ⟨rfl,rfl,false,rfl,trivial⟩
    | exact ⟨rfl,rfl,true,rfl,trivial⟩
    | exact ⟨⟨i + 1,by omega⟩,by dsimp only; omega,(gc [0])⟩
    | skip
theorem Qvx (c:Cp) (h:c.sm):VCalls prog 128 [.agg c.d] [] (QF siD fun a=>a.1.length<=300000000):=by
  refine dd Tryz.func128 ?_
  have c1:=QhU c h
  obtain ⟨h1,h2,h3⟩:=h
  have c2:=QyM c.tx h1
  have c3:=Qvm c.ix h3
  have c4:=Qva [] (by simp)
  (unfold Tryz.f128; refine rn trivial ?_)
  refine rn F ?_
  repeat' (first
    | with_reducible exact ⟨⟩
    | (refine sB F ?_ ?_<;>intro hZ)
    | (refine Qk (c1) rfl ?_; rintro b -; refine rn F ?_)
    | (refine Qk (c2) rfl ?_; rintro ⟨t,e⟩ ht; refine rn F ?_)
    | (refine Qk (c4 _) rfl ?_; rintro u1 hu1; refine rn F ?_)
    | (refine Qk (QyU u1 (by simp at hu1; omega) c.nx) rfl ?_; rintro u2 hu2; refine rn F ?_)
    | (refine Qk (QyU u2 (by simp at hu1; omega) t.length) rfl ?_; rintro u3 hu3; refine rn F ?_))
  all_goals first
    | exact ⟨rfl,rfl,([],24),rfl,by simp⟩
    | skip
  dsimp only at ht
  simp only [List.length_nil] at hu1
  have hadd:=QcQ (a:=u3) (b:=t) (by omega)
  have hw:(u3 ++ t).length = u3.length + t.length:=List.length_append
  have F:=@hadd
  refine rn F ?_
  repeat' (first
    | with_reducible exact ⟨⟩
    | (refine Qk (Qvb (u3 ++ t) (by rw [hw]; omega) c.dl.length) rfl ?_; rintro u4 hu4; refine rn F ?_))
  rw [hw] at hu4
  refine Qh (fun r:{r:Nat × List UInt8 // r.1<=c.dl.length/\r.2.length = u4.length + 17 * r.1}=>⟨77,0,[(7,.int .i64 r.1.1),(6,.pv (.str r.1.2)),(1,.ptr 0 0)],[⟨210,true,c.d⟩]⟩) (fun r=>c.dl.length - r.1.1) ⟨(0,u4),by simp⟩ (gc [0]) ?_
  rintro ⟨⟨i,v⟩,hi,hv⟩
  dsimp only at hi hv |-
  have hy:=fun h:i < c.dl.length=>Qfm c.dl i h
  generalize c.dl.getD i Dt0 = x at *
  have F:=@hy
  refine rn F ?_
  repeat' (first
    | with_reducible exact ⟨⟩
    | (refine sB F ?_ ?_<;>intro hZ)
    | (refine Qk (Qvb v (by omega) x.pg) rfl ?_; rintro v1 hv1; refine rn F ?_)
    | (refine Qk (Qkd v1 (by omega) x.rc) rfl ?_; rintro v2 hv2; refine rn F ?_)
    | (refine Qk (Qkd v2 (by omega) x.last) rfl ?_; rintro v3 hv3; refine rn F ?_)
    | (refine Qk (c3) rfl ?_; rintro ⟨w,e2⟩ hw2; refine rn F ?_))
  all_goals first
    | exact ⟨⟨(i + 1,v3),by dsimp only; omega,by dsimp only; omega⟩,by dsimp only; omega,(gc [0])⟩
    | skip
  dsimp only at hw2
  have hadd2:=QcQ (a:=v) (b:=w) (by omega)
  have F:=@hadd2
  refine rn F ?_
  exact ⟨rfl,rfl,(v ++ w,0),rfl,by dsimp only; rw [List.length_append]; omega⟩
theorem Qk2 {x:Lg} {n:Int} (h:(QaG x n).2 = 0):Ev x (QaG x n).1:=by
  unfold QaG at h |-
  split at h
  · simp at h
  rename_i q1
  split at h
  · simp at h
  rename_i q2
  rw [if_neg q1,if_neg q2]
  refine ⟨rfl,List.prefix_rfl,fun hv=>?_⟩
  have hd:=QaC hv
  unfold lgB at hv |-
  simp only [Bool.and_eq_true,decide_eq_true_eq] at hv |-
  refine ⟨?_,hv.2⟩
  simp only [Lg.hd,Lg.end_] at hd q2 |-
  split<;>omega
theorem Qh2 (x:Lg) (n:Int) (h:x.es.length<=4096):(QaG x n).1.es.length<=4096:=by
  unfold QaG
  repeat' split
  all_goals first | exact Nat.zero_le _ | exact h
theorem QpI {k k1:Kn} {e:E} {n1 e1:Int} (hq:QxJ k e (k1,n1,e1)) (h:e1 = 0):(QaG k1.lg n1).2 = 0:=by
  obtain ⟨e',⟨_,_,_,hl,_⟩,hk,hn,hv⟩:=hq.2 h
  dsimp only at hk hn hv
  subst hk
  unfold QaG
  rw [if_neg (by rw [hv]; decide),if_neg]
  simp only [Kn.add,Lg.end_,List.length_append,List.length_cons,List.length_nil] at *
  omega
def QBx (k:Kn) (a:Kn × Int × Int):Prop:=a.1.sm/\(a.2.2 = 0->Ev k.lg a.1.lg)
theorem QyO (k:Kn) (h:k.sm):VCalls prog 108 [.agg k.d] [] (QF kie (QBx k)):=by
  refine dk Tryz.func108 ?_
  have c1:=Qza k h
  have c2:=fun c hc=>Qvx c hc
  have c3:=fun t=>QdP k h ⟨0,6,0,0,0,0,Ch0,t⟩
  have e0:∀ n e,e ≠ 0->QBx k (Kn0,n,e):=fun n e h=>⟨QbR,fun h2=>absurd h2 h⟩
  (unfold Tryz.f108; refine rn trivial ?_)
  refine rn F ?_
  repeat' (first
    | with_reducible exact ⟨⟩
    | (refine sB F ?_ ?_<;>intro hZ)
    | (refine Qk (c1) rfl ?_; rintro ⟨c,e⟩ hc; refine rn F ?_)
    | (refine Qk (c2 c hc) rfl ?_; rintro ⟨t,e2⟩ ht; refine rn F ?_)
    | (refine Qk (c3 _) rfl ?_; rintro ⟨k1,n1,e1⟩ hq; refine rn F ?_)
    | refine vp F (QiJ k1.lg (Nat.le_trans hq.1.1 (by decide)) n1) ?_)
  all_goals first
    | exact ⟨rfl,rfl,(Kn0,0,21),rfl,e0 _ _ (by decide)⟩
    | exact ⟨rfl,rfl,(Kn0,0,e),rfl,e0 _ _ (by assumption)⟩
    | exact ⟨rfl,rfl,(Kn0,0,e1),rfl,e0 _ _ (by assumption)⟩
    | skip
  have he1:e1 = 0:=by omega
  obtain ⟨q1,q2,q3,q4,q5,q6,q7⟩:=Qd1 hq he1
  obtain ⟨r1,r2,r3,r4,r5,r6⟩:=hq.1
  have hf:=Qk2 (QpI hq he1)
  exact ⟨rfl,rfl,(⟨k1.pg,k1.nx,(QaG k1.lg n1).1,k1.pl,k1.lk,k1.tx,k1.ix,k1.la⟩,n1,0),rfl,⟨Qh2 _ _ r1,r2,r3,r4,r5,r6⟩,fun _=>q1.trans hf⟩
theorem Qrk (s:Sv) (hs:s.sm):VCalls prog 93 [.agg s.d] [] (QF QEi fun a=>a.1.sm/\(a.2.2 = 0->Ev s.k.lg a.1.k.lg)):=by
  refine dk Tryz.func93 ?_
  have c1:=QyO s.k hs.1
  (unfold Tryz.f93; refine rn trivial ?_)
  refine rn F ?_
  repeat' (first
    | with_reducible exact ⟨⟩
    | (refine sB F ?_ ?_<;>intro hZ)
    | (refine Qk (c1) rfl ?_; rintro ⟨k1,n1,e1⟩ hq; refine rn F ?_))
  all_goals first
    | exact ⟨rfl,rfl,(Sv0,0,e1),rfl,Qc9,fun h=>absurd h (by assumption)⟩
    | exact ⟨rfl,rfl,(⟨k1,s.v⟩,n1,0),rfl,⟨hq.1,hs.2⟩,fun _=>hq.2 (by dsimp only; omega)⟩
    | skip
@[go_sem] def niZ (a:Int × Int):DV:=.tup [.int .i64 a.1,.int .i64 a.2]
theorem QdQ (s:List UInt8) (hs:s.length<=100000000) (a:Int) (k:Nat) (h1:1<=k) (h8:k<=8) (h0:0<=a):VCalls prog 217 [.pv (.str s),.int .i64 a,.int .i64 k] [] (QF niZ fun r=>(k<=4->0<=r.1/\r.1 < 4294967296)/\(k<=2->r.1 < 65536)/\(k<=1->r.1 < 256)/\(r.2 = 0->a + k<=s.length)):=by
  by_cases h:a + k<=s.length
  · obtain ⟨n,rfl⟩:∃ n:Nat,a = n:=⟨a.toNat,by omega⟩
    refine (QhR s (by omega) n k ⟨h1,h8⟩ (by omega)).toS (IntKind.i64.wrap (Qly s n k),0) rfl ⟨fun hk=>?_,fun hk=>?_,fun hk=>?_,fun _=>h⟩
    all_goals
      have e:=QeG s n k (by omega)
      have h2:=QkO s n k
      dsimp only
      rw [e,IntKind.wrap_i64]
    · have:(2:Nat) ^ (8 * k)<=2 ^ 32:=Nat.pow_le_pow_right (by omega) (by omega)
      omega
    · have:(2:Nat) ^ (8 * k)<=2 ^ 16:=Nat.pow_le_pow_right (by omega) (by omega)
      omega
    · have:(2:Nat) ^ (8 * k)<=2 ^ 8:=Nat.pow_le_pow_right (by omega) (by omega)
      omega
  · refine (Qdm s a k (by omega) h0 h).toS (0,5) rfl ⟨fun _=>by decide,fun _=>by decide,fun _=>by decide,fun h=>by simp at h⟩
structure RwS (n:Nat) where
  i:Nat
  l:List Rw
  hl:l.length = i
  hi:i<=n
@[go_sem] def ixD (a:List Rw × Int):DV:=.tup [.agg [.pv (.sl (fz Qb1 a.1))],.int .i64 a.2]
theorem Qvn (s:List UInt8) (hs:s.length<=100000000):VCalls prog 257 [.pv (.str s)] [] (QF ixD fun a=>a.1.length<=64):=by
  refine dk Tryz.func257 ?_
  have c1:=QdQ s hs 0 2 (by omega) (by omega) (by omega)
  have c8:=fun a h=>QdQ s hs a 8 (by omega) (by omega) h
  (unfold Tryz.f257; refine rn trivial ?_)
  refine rn F ?_
  repeat' (first
    | with_reducible exact ⟨⟩
    | (refine sG F ?_ ?_<;>intro hZ)
    | (refine sB F ?_ ?_<;>intro hZ)
    | (refine Qk (c1) rfl ?_; rintro ⟨n,e⟩ hn; refine rn F ?_))
  all_goals first
    | exact ⟨rfl,rfl,([],_),rfl,Nat.zero_le _⟩
    | skip
  dsimp only at hn
  obtain ⟨n,rfl⟩:∃ m:Nat,n = m:=⟨n.toNat,by omega⟩
  have hn2:n < 65536:=by omega
  clear hn
  refine VLoop.nilOwnC 1 0 278 3 rfl rfl ?_
  refine rn trivial ?_
  refine Qh (fun r:RwS n=>⟨77,0,[(7,.int .i64 r.i),(6,.ptr 1 0),(4,.int .i64 n),(2,.ptr 0 0),(0,.pv (.str s))],[⟨38,true,[.pv (.slc [])]⟩,⟨38,true,[.own 2 3 0 r.i]⟩,⟨278,true,cells Qb1 r.l⟩]⟩) (fun r=>n - r.i) ⟨0,[],rfl,Nat.zero_le _⟩ (gc [0,1,2]) ?_
  rintro ⟨i,l,hl,hi⟩
  dsimp only at hi |-
  subst hl
  have hb:(l.length + 1) * 24<=140737488355328:=by omega
  have c9:=Qa7 l (by omega)
  have hix:=fun h:ixB l = true=>QsE h
  generalize ixB l = ok at *
  have F:=@hb
  refine rn F ?_
  repeat' (first
    | with_reducible exact ⟨⟩
    | (refine sB F ?_ ?_<;>intro hZ)
    | (refine Qk (c8 (2 + 24 * (l.length:Int)) (by omega)) rfl ?_; rintro ⟨a1,e1⟩ h1; refine rn F ?_)
    | (refine Qk (c8 (10 + 24 * (l.length:Int)) (by omega)) rfl ?_; rintro ⟨a2,e2⟩ h2; refine rn F ?_)
    | (refine Qk (c8 (18 + 24 * (l.length:Int)) (by omega)) rfl ?_; rintro ⟨a3,e3⟩ h3; refine rn F ?_))
  · have hl2:(l ++ [(⟨a1,a2,a3⟩:Rw)]).length = l.length + 1:=by simp
    have hil:l.length < n:=by omega
    clear h1 h2 h3
    refine ⟨⟨l.length + 1,l ++ [⟨a1,a2,a3⟩],hl2,hil⟩,by dsimp only; omega,?_⟩
    exact (gc [0,1,5])
  have hix:=fun h:ixB l = true=>QsE h
  have c9:=Qa7 l (by omega)
  generalize ixB l = ok at *
  refine vl hb c9 ?_
  cases ok
  · skip
    have F:=@hb
    refine rn F ?_
    exact ⟨rfl,rfl,([],_),rfl,Nat.zero_le _⟩
  · skip
    have F:=@hb
    refine rn F ?_
    exact ⟨rfl,rfl,(l,0),rfl,(hix rfl).2⟩
structure DtS (n m:Nat) where
  i:Nat
  a:Int
  l:List Dt
  hl:l.length = i
  hi:i<=m
  ha:a = 11 + n + 17 * i
theorem Qvy (s:List UInt8) (hs:s.length<=3000000):VCalls prog 254 [.pv (.str s)] [] (QF QEv fun a=>smN 64 a.1.tx/\a.1.dl.length<=256/\a.1.ix.length<=64):=by
  refine dk Tryz.func254 ?_
  have c1:=QdQ s (by omega) 0 2 (by omega) (by omega) (by omega)
  have c2:=QdQ s (by omega) 2 4 (by omega) (by omega) (by omega)
  have c3:=QdQ s (by omega) 6 4 (by omega) (by omega) (by omega)
  have c4:=fun a h=>QdQ s (by omega) a 1 (by omega) (by omega) h
  have c8:=fun a h=>QdQ s (by omega) a 8 (by omega) (by omega) h
  (unfold Tryz.f254; refine rn trivial ?_)
  refine Qk c1 rfl ?_
  rintro ⟨pg,e1⟩ h1
  refine rn trivial ?_
  refine Qk c2 rfl ?_
  rintro ⟨nx,e2⟩ h2
  refine rn trivial ?_
  refine Qk c3 rfl ?_
  rintro ⟨n,e3⟩ h3
  dsimp only at h3
  obtain ⟨n,rfl⟩:∃ m:Nat,n = m:=⟨n.toNat,by omega⟩
  have hn:n < 4294967296:=by omega
  clear h3
  refine rn F ?_
  repeat' (first
    | with_reducible exact ⟨⟩
    | (refine sG F ?_ ?_<;>intro hZ)
    | (refine sB F ?_ ?_<;>intro hZ))
  all_goals first | exact ⟨rfl,rfl,(Cp0,5),rfl,QM _,Nat.zero_le _,Nat.zero_le _⟩ | skip
  have hns:n + 10<=s.length:=by omega
  refine Qk (c4 (10 + (n:Int)) (by omega)) rfl ?_
  rintro ⟨m,e4⟩ h4
  dsimp only at h4
  obtain ⟨m,rfl⟩:∃ k:Nat,m = k:=⟨m.toNat,by omega⟩
  have hm:m < 256:=by omega
  clear h4
  refine rn F ?_
  repeat' (first
    | with_reducible exact ⟨⟩
    | (refine sG F ?_ ?_<;>intro hZ)
    | (refine sB F ?_ ?_<;>intro hZ))
  all_goals first | exact ⟨rfl,rfl,(Cp0,5),rfl,QM _,Nat.zero_le _,Nat.zero_le _⟩ | skip
  have hns2:11 + n + 17 * m<=s.length:=by omega
  refine VLoop.nilOwnC 1 3 190 3 rfl rfl ?_
  refine rn trivial ?_
  generalize htx:(s.take (10 + (n:Int)).toNat).drop 10 = txs
  have htl:txs.length<=3000000:=by rw [<- htx,List.length_drop,List.length_take]; omega
  refine Qh (fun r:DtS n m=>⟨130,0,[(11,.int .i64 r.i),(10,.int .i64 m),(9,.int .i64 r.a),(8,.pv (.str txs)),(4,.ptr 1 0),(2,.ptr 0 0),(0,.pv (.str s))],[⟨210,true,[.int .i64 0,.int .i64 0,.pv (.slc []),.pv (.slc []),.pv (.slc [])]⟩,⟨210,true,[.int .i64 pg,.int .i64 nx,.pv (.slc []),.own 2 3 0 r.i,.pv (.slc [])]⟩,⟨190,true,cells Qdt r.l⟩]⟩) (fun r=>m - r.i) ⟨0,10 + (n:Int) + 1,[],rfl,Nat.zero_le _,by omega⟩ (gc [0,1,2]) ?_
  rintro ⟨i,a,l,hl,hi,ha⟩
  dsimp only
  subst hl
  have hb:(l.length + 1) * 24<=140737488355328:=by omega
  by_cases hil:l.length < m
  · skip
    have F:=@hb
    refine rn F ?_
    repeat' (first
      | with_reducible exact ⟨⟩
      | (refine Qk (c4 a (by omega)) rfl ?_; rintro ⟨a1,e1⟩ h1; refine rn F ?_)
      | (refine Qk (c8 (a + 1) (by omega)) rfl ?_; rintro ⟨a2,e2⟩ h2; refine rn F ?_)
      | (refine Qk (c8 (a + 9) (by omega)) rfl ?_; rintro ⟨a3,e3⟩ h3; refine rn F ?_))
    have hl2:(l ++ [(⟨a1,a2,a3⟩:Dt)]).length = l.length + 1:=by simp
    clear h1 h2 h3
    refine ⟨⟨l.length + 1,a + 17,l ++ [⟨a1,a2,a3⟩],hl2,hil,by rw [ha]; omega⟩,by dsimp only; omega,?_⟩
    exact (gc [0,1,5])
  obtain rfl:m = l.length:=by omega
  have c9:=Qoy txs htl
  have hq:smN 64 (QCH txs).1:=by
    unfold QCH
    split
    · exact QM _
    split
    · exact QM _
    split
    · exact QM _
    · rename_i h; exact QfJ (by simpa using h)
  generalize QCH txs = D at *
  obtain ⟨tx,et⟩:=D
  dsimp only at hq
  have ha2:0<=a/\a<=s.length:=by omega
  obtain ⟨a,rfl⟩:∃ k:Nat,a = k:=⟨a.toNat,by omega⟩
  have hsl:(s.drop a).length<=100000000:=by rw [List.length_drop]; omega
  have hal:a<=s.length:=by omega
  have F:=(And.intro @hb @hal)
  refine rn F ?_
  repeat' (first
    | with_reducible exact ⟨⟩
    | (refine sB F ?_ ?_<;>intro hZ)
    | refine vp F (c9) ?_
    | (refine Qk (Qvn _ hsl) rfl ?_; rintro ⟨ix,ei⟩ hi2; refine rn F ?_))
  all_goals first | exact ⟨rfl,rfl,(Cp0,_),rfl,QM _,Nat.zero_le _,Nat.zero_le _⟩ | skip
  dsimp only at hi2
  have c10:=QhU ⟨pg,nx,tx,l,ix⟩ ⟨hq.mono (by decide),by dsimp only; omega,hi2⟩
  have F:=@hb
  refine rn F ?_
  repeat' (first
    | with_reducible exact ⟨⟩
    | (refine sB F ?_ ?_<;>intro hZ)
    | (refine Qux (c10) ?_ (fun _=>rfl) ?_; (focus (refine rd F)); rintro b -; refine rn F ?_))
  all_goals first
    | exact ⟨rfl,rfl,(Cp0,_),rfl,QM _,Nat.zero_le _,Nat.zero_le _⟩
    | exact ⟨rfl,rfl,(⟨pg,nx,tx,l,ix⟩,0),rfl,hq,by dsimp only; omega,hi2⟩
    | skip
theorem Qpy {c:Ce} (h:c.no = true):c.data.length<=12:=by
  unfold Ce.no at h
  simp only [Bool.and_eq_true,beq_iff_eq] at h
  rw [h.2]; exact Nat.zero_le _
theorem QwL {c:Ce} (h:c.okB = true):c.data.length<=12:=by
  unfold Ce.okB at h
  simp only [Bool.and_eq_true,decide_eq_true_eq] at h
  exact h.1
theorem Qes {e:E} (h:e.okB = true):e.c.b.data.length<=12/\e.c.a.data.length<=12/\e.blob.length<=8192:=by
  unfold E.okB at h
  simp only [Bool.and_eq_true] at h
  have h2:=h.2
  clear h
  unfold E.kindB at h2
  have nb:∀ {l:List UInt8},l == []->l.length<=8192:=fun h=>by rw [beq_iff_eq] at h; rw [h]; exact Nat.zero_le _
  split at h2
  · simp only [Bool.and_eq_true,Ch.okB] at h2
    exact ⟨QwL h2.2.1.2,QwL h2.2.2,nb h2.1.2⟩
  split at h2
  · simp only [Bool.and_eq_true,Ch.okB] at h2
    exact ⟨QwL h2.2.1.2,QwL h2.2.2,nb h2.1.1.1.2⟩
  split at h2
  · simp only [Bool.and_eq_true,Ch.no] at h2
    exact ⟨Qpy h2.2.1.2,Qpy h2.2.2,nb h2.1.2⟩
  split at h2
  · simp only [Bool.and_eq_true,Ch.no,decide_eq_true_eq] at h2
    exact ⟨Qpy h2.2.1.2,Qpy h2.2.2,h2.1.2⟩
  split at h2
  · simp only [Bool.and_eq_true,Ch.ix] at h2
    exact ⟨Qpy h2.2.1.1.1.2,Qpy h2.2.1.1.2,nb h2.1.2⟩
  · cases h2
def Qai (s:List UInt8) (c:Ce):List UInt8:=if c.set = true then Qao s c.data.length 1 ++ c.data else Qao s 255 1
theorem Qbw (s:List UInt8) (c:Ce):(Qai s c).length<=s.length + 1 + c.data.length:=by
  unfold Qai; split
  · rw [List.length_append,Qq]; exact Nat.le_refl _
  · rw [Qq]; omega
theorem Qkj (s:List UInt8) (hs:s.length<=100000000) (c:Ce) (hc:c.data.length<=1000000):VCalls prog 246 [.pv (.str s),.agg c.d] [] (Ret (.pv (.str (Qai s c)))):=by
  refine dd Tryz.func246 ?_
  have c1:=Qb7 s (by omega) 255 1 (by omega) (by omega)
  have c2:=Qb7 s (by omega) c.data.length 1 (by omega) (by omega)
  have e:Qai s c = if c.set = true then Qao s c.data.length 1 ++ c.data else Qao s 255 1:=rfl
  have hadd:=QcQ (a:=Qao s c.data.length 1) (b:=c.data) (by rw [Qq]; omega)
  generalize Qai s c = r at *
  (unfold Tryz.f246; refine rn trivial ?_)
  have F:=@hadd
  refine rn F ?_
  repeat' (first
    | with_reducible exact ⟨⟩
    | (refine sB F ?_ ?_<;>intro hZ)
    | refine vp F (c1) ?_
    | refine vp F (c2) ?_
    | (refine Qd (id:=3) [0,1,2,3,5,6] [⟨[],[],4,[1,2,5,6],[7]⟩,⟨[],[],8,[],[]⟩] (by kernel_rfl) (by kernel_rfl) ?_; refine rn F ?_))
  all_goals first | (first | (rw [e]; simp (disch:=first | assumption | omega | exact rfl | exact nf (by assumption) | exact nt (by assumption) | decide | fail) only [if_pos,if_neg]; first | done | rfl) | (rw [e]; simp (disch:=first | assumption | omega | exact rfl | exact nf (by assumption) | exact nt (by assumption) | decide | (simp_all; done) | fail) only [if_pos,if_neg]; first | done | rfl)) | skip
def QaX (e:E):List UInt8:=Qao (Qao (Qao (Qao (Qao (Qao (Qao (Qao [] e.lsn 8) e.kind 1) e.tx 4) e.ptx 8) e.ppg 8) e.ref 8) e.c.pg 4) e.c.sl 1
theorem Qdr (e:E):(QaX e).length = 42:=by unfold QaX; simp only [Qq,List.length_nil]
def Qk7 (e:E):List UInt8:=Qao (Qai (Qai (QaX e) e.c.b) e.c.a) e.blob.length 4 ++ e.blob
def Qhy (e:E):List UInt8 × Int:=if e.okB = true then (Qk7 e,0) else ([],12)
theorem Qy9 (e:E):VCalls prog 215 [.agg e.d] [] (Ret (.tup [.pv (.str (Qhy e).1),.int .i64 (Qhy e).2])):=by
  refine dd Tryz.func215 ?_
  have c1:=Qcq e
  unfold Qhy
  cases hv:e.okB
  · rw [hv] at c1
    (unfold Tryz.f215; refine rn trivial ?_)
    refine rn F ?_
    repeat' (first
      | with_reducible exact ⟨⟩
      | refine vp F (c1) ?_)
    all_goals rfl
  rw [hv] at c1
  obtain ⟨l1,l2,l3⟩:=Qes hv
  have n1:=Qbw (QaX e) e.c.b
  have n2:=Qbw (Qai (QaX e) e.c.b) e.c.a
  rw [Qdr] at n1
  have p9:=Qkj (QaX e) (by rw [Qdr]; omega) e.c.b (by omega)
  have p10:=Qkj (Qai (QaX e) e.c.b) (by omega) e.c.a (by omega)
  have p11:=Qb7 (Qai (Qai (QaX e) e.c.b) e.c.a) (by omega) e.blob.length 4 (by omega) (by omega)
  have hadd:=QcQ (a:=Qao (Qai (Qai (QaX e) e.c.b) e.c.a) e.blob.length 4) (b:=e.blob) (by rw [Qq]; omega)
  have hh:QaX e = Qao (Qao (Qao (Qao (Qao (Qao (Qao (Qao [] e.lsn 8) e.kind 1) e.tx 4) e.ptx 8) e.ppg 8) e.ref 8) e.c.pg 4) e.c.sl 1:=rfl
  have q:=fun (s:List UInt8) (hs:s.length<=1000) (n:Int) (k:Nat) (h1:1<=k) (h8:k<=8)=>Qb7 s (by omega) n k h1 h8
  (unfold Tryz.f215; refine rn trivial ?_)
  have F:=@hh.symm
  refine rn F ?_
  repeat' (first
    | with_reducible exact ⟨⟩
    | refine vp F (c1) ?_
    | refine vp F (q _ (by simp [Qq]) _ 8 (by omega) (by omega)) ?_
    | refine vp F (q _ (by simp [Qq]) _ 1 (by omega) (by omega)) ?_
    | refine vp F (q _ (by simp [Qq]) _ 4 (by omega) (by omega)) ?_
    | (refine Qd (id:=11) [0,1,2,3,5,6,7] [⟨[],[],4,[1,2,5,6,7],[]⟩,⟨[],[],8,[0,1,2,3,5,6],[]⟩,⟨[],[],9,[],[]⟩] (by kernel_rfl) (by kernel_rfl) ?_; refine rn F ?_))
  have F:=@hadd
  refine rn F ?_
  repeat' (first
    | with_reducible exact ⟨⟩
    | refine vp F (p9) ?_
    | refine vp F (p10) ?_
    | refine vp F (p11) ?_
    | (refine Qd (id:=12) [0,1,2,3,5,6] [⟨[],[],4,[1,2,5,6],[7]⟩,⟨[],[],8,[],[]⟩,⟨[],[],9,[],[]⟩] (by kernel_rfl) (by kernel_rfl) ?_; refine rn F ?_))
  all_goals rfl
theorem Qk6 (e:E):(Qhy e).1.length<=9000:=by
  unfold Qhy
  split
  · rename_i hv
    obtain ⟨l1,l2,l3⟩:=Qes hv
    have n1:=Qbw (QaX e) e.c.b
    have n2:=Qbw (Qai (QaX e) e.c.b) e.c.a
    rw [Qdr] at n1
    unfold Qk7
    dsimp only
    rw [List.length_append,Qq]
    omega
  · exact Nat.zero_le _
theorem QrC (e:E):VCalls prog 173 [.agg e.d] [] (Ret (.pv (.str (frm (Qhy e).1)))):=by
  refine dd Tryz.func173 ?_
  have c1:=Qy9 e
  have hl:=Qk6 e
  generalize Qhy e = r at *
  have c2:=Qnd r.1 (by omega)
  (unfold Tryz.f173; refine rn trivial ?_)
  refine rn F ?_
  repeat' (first
    | with_reducible exact ⟨⟩
    | refine vp F (c1) ?_
    | refine vp F (c2) ?_)
  all_goals rfl
def Qc0 (n:Int):List UInt8:=frm (Qao [80,77,76,71] n 8)
theorem Qvq (n:Int):VCalls prog 172 [.int .i64 n] [] (Ret (.pv (.str (Qc0 n)))):=by
  refine dd Tryz.func172 ?_
  have c1:=Qb7 [80,77,76,71] (by simp) n 8 (by omega) (by omega)
  have c2:=Qnd (Qao [80,77,76,71] n 8) (by rw [Qq]; simp)
  (unfold Tryz.f172; refine rn trivial ?_)
  refine rn F ?_
  repeat' (first
    | with_reducible exact ⟨⟩
    | refine vp F (c1) ?_
    | refine vp F (c2) ?_)
  all_goals rfl
def frE (e:E):List UInt8:=frm (Qhy e).1
theorem Qs9 (e:E):(frE e).length<=9008:=by
  have:=Qk6 e
  unfold frE frm
  split
  · rw [Qq,List.length_append,Qq,List.length_nil]; omega
  · exact Nat.zero_le _
def QpR (l:List E) (d:Int):List UInt8:=(l.filter fun e=>decide (e.lsn<=d)).flatMap frE
def QrE (l:List E) (d:Int):List UInt8:=(l.filter fun e=>!decide (e.lsn<=d)).flatMap frE
theorem Qtn (l:List E) (d:Int) (i:Nat) (h:i < l.length):QpR (l.take (i + 1)) d = if (l.getD i E0).lsn<=d then QpR (l.take i) d ++ frE (l.getD i E0) else QpR (l.take i) d:=by
  unfold QpR
  rw [List.take_succ_eq_append_getElem h,List.filter_append,List.flatMap_append,Qn l i h]
  split<;>rename_i hx<;>simp [hx]
theorem QrD (l:List E) (d:Int) (i:Nat) (h:i < l.length):QrE (l.take (i + 1)) d = if (l.getD i E0).lsn<=d then QrE (l.take i) d else QrE (l.take i) d ++ frE (l.getD i E0):=by
  unfold QrE
  rw [List.take_succ_eq_append_getElem h,List.filter_append,List.flatMap_append,Qn l i h]
  split<;>rename_i hx<;>simp [hx]
theorem Qxx (l:List E):(l.flatMap frE).length<=9008 * l.length:=by
  induction l with
  | nil=>simp
  | cons a r ih =>
    have:=Qs9 a
    rw [List.flatMap_cons,List.length_append,List.length_cons]; omega
theorem QnK (l:List E) (d:Int):(QpR l d).length<=9008 * l.length:=
  Nat.le_trans (Qxx _) (Nat.mul_le_mul_left _ (List.length_filter_le _ _))
theorem Qng (l:List E) (d:Int):(QrE l d).length<=9008 * l.length:=
  Nat.le_trans (Qxx _) (Nat.mul_le_mul_left _ (List.length_filter_le _ _))
theorem QkW (n:Int):(Qc0 n).length<=9008:=by
  unfold Qc0 frm
  split
  · rw [Qq,List.length_append,Qq,Qq,List.length_nil]; simp
  · exact Nat.zero_le _
def Qc5 (x:Lg) (torn:Int):List UInt8:=if lgB x = true then Qc0 x.f ++ QpR x.es x.d ++ (QrE x.es x.d).take torn.toNat else []
theorem Qnh (x:Lg) (hx:x.es.length<=9223372036854775807) (torn:Int):VCalls prog 131 [.agg x.c,.int .i64 torn] [] (Ret (.pv (.str (Qc5 x torn)))):=by
  refine dd Tryz.func131 ?_
  have c1:=Qad x hx
  have c2:=Qvq x.f
  have hh:=QkW x.f
  unfold Qc5
  (unfold Tryz.f131; refine rn trivial ?_)
  cases hv:lgB x
  · rw [hv] at c1
    refine rn F ?_
    repeat' (first
      | with_reducible exact ⟨⟩
      | refine vp F (c1) ?_)
    all_goals rfl
  rw [hv] at c1
  have hd:=QaC hv
  simp only [Lg.hd] at hd
  refine rn F ?_
  repeat' (first
    | with_reducible exact ⟨⟩
    | refine vp F (c1) ?_
    | refine vp F (c2) ?_)
  generalize Qc0 x.f = H at *
  refine Qh (fun s:To x.es.length=>⟨55,0,[(7,.int .i64 s.i),(6,.pv (.str (QrE (x.es.take s.i) x.d))),(5,.pv (.str (H ++ QpR (x.es.take s.i) x.d))),(2,.ptr 0 0),(1,.int .i64 torn)],[⟨25,true,x.c⟩]⟩) (fun s=>x.es.length - s.i) ⟨0,Nat.zero_le _⟩ (by simp only [List.take_zero]; rw [show QpR [] x.d = [] from rfl,show QrE [] x.d = [] from rfl,List.append_nil]; exact (gc [0])) ?_
  rintro ⟨i,hi⟩
  dsimp only
  have hg:=fun h:i < x.es.length=>QdB x.es i h
  have c3:=QrC (x.es.getD i E0)
  have hf:=Qs9 (x.es.getD i E0)
  have hs1:=Qtn x.es x.d i
  have hs2:=QrD x.es x.d i
  have l1:=QnK (x.es.take i) x.d
  have l2:=Qng (x.es.take i) x.d
  rw [List.length_take] at l1 l2
  have hfr:frm (Qhy (x.es.getD i E0)).1 = frE (x.es.getD i E0):=rfl
  rw [hfr] at c3
  have a1:=QcQ (a:=H ++ QpR (x.es.take i) x.d) (b:=frE (x.es.getD i E0)) (by rw [List.length_append]; omega)
  have a2:=QcQ (a:=QrE (x.es.take i) x.d) (b:=frE (x.es.getD i E0)) (by omega)
  have hH:(H ++ QpR (x.es.take i) x.d).length = H.length + (QpR (x.es.take i) x.d).length:=List.length_append
  have F:=(And.intro @hg (And.intro @a1 @a2))
  refine rn F ?_
  repeat' (first
    | with_reducible exact ⟨⟩
    | (refine sB F ?_ ?_<;>intro hZ)
    | refine vp F (c3) ?_
    | (refine Qd (id:=7) [0,1,2,3,4,5,6,7,8] [] (by kernel_rfl) (by kernel_rfl) ?_; refine rn F ?_))
  · have d1:=hs1 (by omega)
    have d2:=hs2 (by omega)
    rw [if_pos (by first | assumption | omega)] at d1 d2
    refine ⟨⟨i + 1,by omega⟩,by dsimp only; omega,?_⟩
    dsimp only
    rw [d1,d2,<- List.append_assoc]
    exact (gc [0])
  · have d1:=hs1 (by omega)
    have d2:=hs2 (by omega)
    rw [if_neg (by first | assumption | omega)] at d1 d2
    refine ⟨⟨i + 1,by omega⟩,by dsimp only; omega,?_⟩
    dsimp only
    rw [d1,d2]
    exact (gc [0])
  · rw [List.take_of_length_le (show x.es.length<=i by omega)]
    congr 3
    generalize QrE x.es x.d = R
    by_cases h0:0 > torn
    · rw [if_pos h0]
      rw [if_neg (by omega),show torn.toNat = (0:Int).toNat by omega]
    · rw [if_neg h0]
      by_cases h1:(R.length:Int) < torn
      · rw [if_pos h1,Int.toNat_natCast,List.take_length,List.take_of_length_le (by omega)]
      · rw [if_neg h1]
@[go_sem] def ltD (a:Cp × Int × Bool):DV:=.tup [.agg a.1.d,.int .i64 a.2.1,.bool a.2.2]
theorem QCk {x:Lg} (h:lgB x = true):∀ i,i < x.es.length->(x.es.getD i E0).blob.length<=8192:=by
  unfold lgB at h
  simp only [Bool.and_eq_true,List.all_eq_true,List.mem_range] at h
  intro i hi
  have:=h.2 i hi
  simp only [lgC,Bool.and_eq_true] at this
  exact (Qes this.2).2.2
def cpQ (c:Cp):Prop:=smN 64 c.tx/\c.dl.length<=256/\c.ix.length<=64
theorem QC2:cpQ Cp0:=⟨QM _,Nat.zero_le _,Nat.zero_le _⟩
theorem Qrx (x:Lg) (hx:x.es.length<=1000000):VCalls prog 250 [.agg x.c] [] (QF ltD fun a=>cpQ a.1):=by
  refine dk Tryz.func250 ?_
  have c1:=Qad x (by omega)
  (unfold Tryz.f250; refine rn trivial ?_)
  cases hv:lgB x
  · rw [hv] at c1
    refine rn F ?_
    repeat' (first
      | with_reducible exact ⟨⟩
      | refine vp F (c1) ?_)
    exact ⟨rfl,rfl,(Cp0,0,false),rfl,QC2⟩
  rw [hv] at c1
  have hs:=QCk hv
  refine rn F ?_
  repeat' (first
    | with_reducible exact ⟨⟩
    | refine vp F (c1) ?_)
  refine Qh (fun r:{r:To x.es.length × Int // r.2 = (r.1.i:Int) - 1}=>⟨47,0,[(5,.int .i64 r.1.2),(2,.ptr 1 0),(1,.ptr 0 0)],[⟨25,true,x.c⟩,⟨210,true,Zc⟩]⟩) (fun r=>r.1.1.i) ⟨(⟨x.es.length,Nat.le_refl _⟩,(x.es.length:Int) - 1),rfl⟩ (gc [0,1]) ?_
  rintro ⟨⟨⟨k,hk⟩,j⟩,hj⟩
  dsimp only at hj |-
  unfold Zc
  by_cases h0:k = 0
  · subst h0
    have hj2:¬ j >= 0:=by omega
    have F:=@hj2
    refine rn F ?_
    exact ⟨rfl,rfl,(Cp0,0,false),rfl,QC2⟩
  obtain ⟨i,rfl⟩:∃ i,k = i + 1:=⟨k - 1,by omega⟩
  obtain rfl:j = (i:Int):=by omega
  have hg:=QdB x.es i (by omega)
  have hb:=hs i (by omega)
  have c2:=Qvy (x.es.getD i E0).blob (by omega)
  have F:=@hg
  refine rn F ?_
  repeat' (first
    | with_reducible exact ⟨⟩
    | (refine sB F ?_ ?_<;>intro hZ)
    | (refine Qk (c2) rfl ?_; rintro ⟨c,e⟩ hc; refine rn F ?_)
    | (refine Qd (id:=9) [0,1,2,3,4,5,6] [⟨[],[],7,[1,2,3,4,5,6],[]⟩,⟨[],[],8,[],[]⟩,⟨[],[],9,[],[]⟩] (by kernel_rfl) (by kernel_rfl) ?_; refine rn F ?_))
  all_goals first
    | exact ⟨⟨(⟨i,by omega⟩,(i:Int) - 1),rfl⟩,by dsimp only; omega,(gc [0,1])⟩
    | exact ⟨rfl,rfl,(c,_,true),rfl,hc⟩
    | skip
structure DyS (n:Nat) where
  i:Nat
  d:Bool
  out:List Dt
  hi:i<=n
  ho:out.length<=i + d.toNat
@[go_sem] def dtL (l:List Dt):DV:=.pv (.sl (fz Qdt l))
theorem Qvv (l:List Dt) (hl:l.length<=1000000) (e:E):VCalls prog 251 [.pv (.sl (fz Qdt l)),.agg e.d] [] (QF dtL fun m=>m.length<=l.length + 1):=by
  refine dk Tryz.func251 ?_
  have c1:=Qa9 e
  generalize (e.kind == 1 || e.kind == 2) = ch at *
  (unfold Tryz.f251; refine rn trivial ?_)
  refine rn F ?_
  repeat' (first
    | with_reducible exact ⟨⟩
    | (refine sG F ?_ ?_<;>intro hZ)
    | (refine sB F ?_ ?_<;>intro hZ)
    | refine vp F (c1) ?_)
  all_goals first
    | exact ⟨rfl,rfl,l,rfl,Nat.le_succ _⟩
    | skip
  all_goals
    refine VLoop.nilOwn 5 190 3 rfl ?_
    refine Qh (fun s:DyS l.length=>⟨100,0,[(7,.int .i64 s.i),(6,.bool s.d),(5,.own 1 3 0 s.out.length),(3,.ptr 0 0),(0,.pv (.sl (fz Qdt l)))],[⟨60,true,e.d⟩,⟨190,true,cells Qdt s.out⟩]⟩) (fun s=>l.length - s.i) ⟨0,false,[],Nat.zero_le _,Nat.zero_le _⟩ (gc [0,1]) ?_
    rintro ⟨i,d,out,hi,ho⟩
    dsimp only
    have hg:=fun h:i < l.length=>Qfm l i h
    generalize l.getD i Dt0 = x at *
    have ho3:out.length<=i + 1:=Nat.le_trans ho (Nat.add_le_add_left (Bool.toNat_le d) i)
    have hb1:(out.length + 1) * 24<=140737488355328:=Nat.le_trans (Nat.mul_le_mul_right 24 (show out.length + 1<=1000002 by omega)) (by decide)
    have hb2:(out.length + 1 + 1) * 24<=140737488355328:=Nat.le_trans (Nat.mul_le_mul_right 24 (show out.length + 1 + 1<=1000003 by omega)) (by decide)
    cases d
  all_goals first | simp only [Bool.toNat_false,Nat.add_zero] at ho | simp only [Bool.toNat_true] at ho
  all_goals
    have F:=(And.intro @hg (And.intro @hb1 @hb2))
    refine rn F ?_
    repeat' (first
      | with_reducible exact ⟨⟩
      | (refine sG F ?_ ?_<;>intro hZ)
      | (refine sB F ?_ ?_<;>intro hZ)
      | refine vp F (c1) ?_)
  all_goals first
    | exact ⟨rfl,rfl,out,rfl,by omega⟩
    | exact ⟨rfl,rfl,_,rfl,by simp; omega⟩
    | exact ⟨⟨i + 1,false,out,by omega,by simp; omega⟩,by dsimp only; omega,(gc [0,1])⟩
    | exact ⟨⟨i + 1,true,out,by omega,by simp; omega⟩,by dsimp only; omega,(gc [0,1])⟩
    | (refine ⟨⟨i + 1,false,out ++ [⟨x.pg,x.rc,x.last⟩],by omega,by simp; omega⟩,by dsimp only; omega,?_⟩; dsimp only; rw [List.length_append]; exact (gc [0,4]))
    | (refine ⟨⟨i + 1,true,out ++ [⟨x.pg,x.rc,x.last⟩],by omega,by simp; omega⟩,by dsimp only; omega,?_⟩; dsimp only; rw [List.length_append]; exact (gc [0,4]))
    | (refine ⟨⟨i + 1,true,out ++ [⟨e.c.pg,e.lsn,e.lsn⟩] ++ [⟨x.pg,x.rc,x.last⟩],by omega,by simp; omega⟩,by dsimp only; omega,?_⟩; dsimp only; rw [List.length_append,List.length_append]; exact (gc [0,6]))
    | (refine ⟨⟨i + 1,false,out ++ [⟨x.pg,x.rc,e.lsn⟩],by omega,by simp; omega⟩,by dsimp only; omega,?_⟩; dsimp only; rw [List.length_append]; exact (gc [0,4]))
    | (refine ⟨⟨i + 1,true,out ++ [⟨x.pg,x.rc,e.lsn⟩],by omega,by simp; omega⟩,by dsimp only; omega,?_⟩; dsimp only; rw [List.length_append]; exact (gc [0,4]))
    | (refine ⟨⟨i + 1,true,out ++ [⟨e.c.pg,e.lsn,e.lsn⟩] ++ [⟨x.pg,x.rc,e.lsn⟩],by omega,by simp; omega⟩,by dsimp only; omega,?_⟩; dsimp only; rw [List.length_append,List.length_append]; exact (gc [0,6]))
    | (refine ⟨⟨i + 1,false,out ++ [⟨x.pg,IntKind.i64.wrap (e.ref + 1),x.last⟩],by omega,by simp; omega⟩,by dsimp only; omega,?_⟩; dsimp only; rw [List.length_append]; exact (gc [0,4]))
    | (refine ⟨⟨i + 1,true,out ++ [⟨x.pg,IntKind.i64.wrap (e.ref + 1),x.last⟩],by omega,by simp; omega⟩,by dsimp only; omega,?_⟩; dsimp only; rw [List.length_append]; exact (gc [0,4]))
    | (refine ⟨⟨i + 1,true,out ++ [⟨e.c.pg,e.lsn,e.lsn⟩] ++ [⟨x.pg,IntKind.i64.wrap (e.ref + 1),x.last⟩],by omega,by simp; omega⟩,by dsimp only; omega,?_⟩; dsimp only; rw [List.length_append,List.length_append]; exact (gc [0,6]))
    | skip
theorem Qrw (a b:Gr):VCalls prog 255 [.agg a.d,.agg b.d] [] (QF boD fun _=>True):=by
  refine dd Tryz.func255 ?_
  (unfold Tryz.f255; refine rn trivial ?_)
  refine rn F ?_
  repeat' (first
    | with_reducible exact ⟨⟩
    | (refine sB F ?_ ?_<;>intro hZ))
  all_goals exact ⟨rfl,rfl,_,rfl,trivial⟩
@[go_sem] def grL (l:List Gr):DV:=.pv (.sl (fz Qap l))
theorem Qq7 (l:List Gr) (hl:l.length<=10000000) (g:Gr):VCalls prog 252 [.pv (.sl (fz Qap l)),.agg g.d] [] (QF grL fun m=>m.length<=l.length + 1):=by
  refine dk Tryz.func252 ?_
  have c1:=fun a=>Qrw a g
  (unfold Tryz.f252; refine rn trivial ?_)
  refine Qh (fun s:To l.length=>⟨44,0,[(5,.int .i64 s.i),(3,.ptr 0 0),(0,.pv (.sl (fz Qap l)))],[⟨222,true,g.d⟩]⟩) (fun s=>l.length - s.i) ⟨0,Nat.zero_le _⟩ (gc [0]) ?_
  rintro ⟨i,hi⟩
  dsimp only
  have hg:=fun h:i < l.length=>QaD l i h
  by_cases hil:i < l.length
  · have hg:=QaD l i hil
    have c2:=Qrw (l.getD i Gr0) g
    generalize l.getD i Gr0 = x at *
    have he:=QtX x.tx x.pg x.sl x.md g.tx g.pg g.sl g.md
    have hb:(i + 1 + (l.length - i)) * 32<=140737488355328:=by omega
    have F:=(And.intro @hg (And.intro @he @hb))
    refine rn F ?_
    repeat' (first
      | with_reducible exact ⟨⟩
      | (refine sB F ?_ ?_<;>intro hZ)
      | (refine Qk (c2) rfl ?_; rintro b -; refine rn F ?_)
      | (refine Qd (id:=2) [0,1,2,3,4,5,6,7,8,9] [⟨[],[],10,[0,1,2,3,5,6,7],[11]⟩] (by kernel_rfl) (by kernel_rfl) ?_; refine rn F ?_)
      | (refine Qd (id:=4) [0,1,2,3,4,5,6,7,8,9,10,11] [] (by kernel_rfl) (by kernel_rfl) ?_; refine rn F ?_)
      | (refine Qd (id:=6) [0,1,2,4,7,8,9] [⟨[5],[],3,[0,1,4,7,8,9],[]⟩,⟨[5],[5],6,[0,1,2,4,7,8,9],[]⟩,⟨[],[],10,[0,1,2,4,7,8],[]⟩,⟨[],[],11,[],[]⟩] (by kernel_rfl) (by kernel_rfl) ?_; refine rn F ?_))
    all_goals first
      | exact ⟨⟨i + 1,by omega⟩,by dsimp only; omega,(gc [0])⟩
      | exact ⟨rfl,rfl,l,rfl,Nat.le_succ _⟩
      | exact ⟨rfl,rfl,_,rfl,by simp; omega⟩
      | skip
  · skip
    have F:=trivial
    refine rn F ?_
    repeat' (first
      | with_reducible exact ⟨⟩
      | (refine Qd (id:=2) [0,1,2,3,4,5,6,7,8,9] [⟨[],[],10,[0,1,2,3,5,6,7],[11]⟩] (by kernel_rfl) (by kernel_rfl) ?_; refine rn F ?_)
      | (refine Qd (id:=4) [0,1,2,3,4,5,6,7,8,9,10,11] [] (by kernel_rfl) (by kernel_rfl) ?_; refine rn F ?_)
      | (refine Qd (id:=6) [0,1,2,4,7,8,9] [⟨[5],[],3,[0,1,4,7,8,9],[]⟩,⟨[5],[5],6,[0,1,2,4,7,8,9],[]⟩,⟨[],[],10,[0,1,2,4,7,8],[]⟩,⟨[],[],11,[],[]⟩] (by kernel_rfl) (by kernel_rfl) ?_; refine rn F ?_))
    exact ⟨rfl,rfl,_,rfl,by simp; omega⟩
@[go_sem] def lkR (a:List Gr × Int):DV:=.tup [.pv (.sl (fz Qap a.1)),.int .i64 a.2]
structure LkO (n:Nat) where
  i:Nat
  out:List Gr
  hi:i<=n
  ho:out.length<=100000 * i
structure LkI (n i:Nat) where
  k:Nat
  out:List Gr
  hk:k<=n
  ho:out.length<=100000 * i + k
theorem Qvg (x:Lg) (hx:x.es.length<=1000000) (l:List Tx) (hl:smN 65 l):VCalls prog 221 [.agg x.c,.pv (.sl (fz Qah l))] [] (QF lkR fun a=>a.1.length<=6500000):=by
  refine dk Tryz.func221 ?_
  have h65:=hl.1
  (unfold Tryz.f221; refine rn trivial ?_)
  refine VLoop.wkS ?_
  refine rn trivial ?_
  refine Qh (fun s:LkO l.length=>⟨68,0,[(7,.int .i64 s.i),(6,.pv (.sl (fz Qap s.out))),(2,.ptr 0 0),(1,.pv (.sl (fz Qah l)))],[⟨25,true,x.c⟩]⟩) (fun s=>l.length - s.i) ⟨0,[],Nat.zero_le _,Nat.zero_le _⟩ (gc [0]) ?_
  rintro ⟨i,out,hi,ho⟩
  dsimp only
  by_cases hil:i < l.length
  rotate_left
  · skip
    refine rn F ?_
    exact ⟨rfl,rfl,(out,0),rfl,by dsimp only; omega⟩
  have hg:=QdV l i hil
  have hss:(l.getD i Tx0).l.length<=100000:=by rw [Qn _ _ hil]; exact (hl.2 _ (List.getElem_mem hil)).1
  generalize l.getD i Tx0 = t at *
  refine rn F ?_
  refine Qh (fun s:LkI t.l.length i=>⟨68,0,[(8,.int .i64 s.k),(7,.int .i64 i),(6,.pv (.sl (fz Qap s.out))),(2,.ptr 0 0),(1,.pv (.sl (fz Qah l)))],[⟨25,true,x.c⟩]⟩) (fun s=>t.l.length - s.k) ⟨0,out,Nat.zero_le _,ho⟩ (gc [0]) ?_
  rintro ⟨k,out2,hk,ho2⟩
  dsimp only
  by_cases hkl:k < t.l.length
  rotate_left
  · skip
    have F:=@hg
    refine rn F ?_
    exact ⟨⟨i + 1,out2,hil,by rw [Nat.mul_succ]; omega⟩,by dsimp only; omega,(gc [0])⟩
  have hg2:=QZ t.l k hkl
  have c1:=QhS x (by omega) (t.l.getD k 0)
  generalize Qfk x (t.l.getD k 0) = r at *
  obtain ⟨e,f⟩:=r
  dsimp only at c1
  have c2:=Qq7 out2 (by omega) ⟨e.tx,e.c.pg,e.c.sl,2⟩
  have F:=(And.intro @hg @hg2)
  refine rn F ?_
  repeat' (first
    | with_reducible exact ⟨⟩
    | (refine sG F ?_ ?_<;>intro hZ)
    | (refine sB F ?_ ?_<;>intro hZ)
    | refine vp F (c1) ?_
    | (refine Qk (c2) rfl ?_; rintro m hm; refine rn F ?_)
    | (refine Qd (id:=8) [0,1,2,3,4,5,6,7,8] [⟨[13],[],9,[1,2,3,4,5,6,7],[10,11,12]⟩,⟨[13],[13],14,[12],[]⟩,⟨[],[],15,[],[]⟩] (by kernel_rfl) (by kernel_rfl) ?_; refine rn F ?_)
    | (refine Qd (id:=11) [0,1,2,3,4,5,6,7,8,9,10,11,12] [] (by kernel_rfl) (by kernel_rfl) ?_; refine rn F ?_))
  all_goals first
    | exact ⟨rfl,rfl,([],_),rfl,Nat.zero_le _⟩
    | exact ⟨⟨k + 1,m,hkl,by omega⟩,by dsimp only; omega,(gc [0])⟩
    | skip
structure An where
  pg:Int
  nx:Int
  cp:Int
  lo:List Tx
  lk:List Gr
  la:List Dt
  ix:List Rw
@[go_sem] def An.d (a:An):List DV:=[.int .i64 a.pg,.int .i64 a.nx,.int .i64 a.cp,.pv (.sl (fz Qah a.lo)),.pv (.sl (fz Qap a.lk)),.pv (.sl (fz Qdt a.la)),.pv (.sl (fz Qb1 a.ix))]
def An0:An:=⟨0,0,0,[],[],[],[]⟩
def An.sm (a:An) (n:Nat):Prop:=smN 65 a.lo/\a.lk.length<=6500000/\a.la.length<=n/\a.ix.length<=64
theorem Qt4 (n:Nat):An0.sm n:=⟨QM _,Nat.zero_le _,Nat.zero_le _,Nat.zero_le _⟩
@[go_sem] def anD (a:An × Int):DV:=.tup [.agg a.1.d,.int .i64 a.2]
theorem Qrs (a:An) (n:Nat) (hn:n<=100000) (ha:a.sm n) (e:E):VCalls prog 220 [.agg a.d,.agg e.d] [] (QF anD fun r=>r.1.sm (n + 1)):=by
  refine dk Tryz.func220 ?_
  obtain ⟨h1,h2,h3,h4⟩:=ha
  have hl:=h1.1
  have c1:=QbV a.lo (by omega) e.tx
  have c2:=Qnj a.lo (h1.smL (by omega)) e.tx
  have c3:=Ql8 a.lo (h1.smL (by omega)) e
  have hs2:=Qlh (l:=a.lo) e.tx
  have hs3:=QiT (l:=a.lo) e
  have c4:=Ql8 (Qcl a.lo e.tx).1 (hs2.smL (by omega)) e
  have hs4:=QiT (l:=(Qcl a.lo e.tx).1) e
  have c5:=Qkh a.ix (by omega) e
  have h5:=QkH a.ix e h4
  have c6:=Qa9 e
  have c7:=Qvv a.la (by omega) e
  generalize QbX (Qcl a.lo e.tx).1 e = N2 at *
  generalize Qcl a.lo e.tx = B at *
  generalize QbX a.lo e = N1 at *
  generalize QgD a.ix e = R at *
  generalize (e.kind == 1 || e.kind == 2) = ch at *
  generalize idT a.lo e.tx = f at *
  obtain ⟨b,eb⟩:=B
  obtain ⟨n1,e1⟩:=N1
  obtain ⟨n2,e2⟩:=N2
  obtain ⟨r,er⟩:=R
  dsimp only at *
  have old:∀ z,QF anD (fun r=>r.1.sm (n + 1)) (anD (a,z)) []:=fun z=>⟨rfl,rfl,(a,z),rfl,h1,h2,by dsimp only; omega,h4⟩
  (unfold Tryz.f220; refine rn trivial ?_)
  refine rn F ?_
  repeat' (first
    | with_reducible exact ⟨⟩
    | (refine sG F ?_ ?_<;>intro hZ)
    | (refine sB F ?_ ?_<;>intro hZ)
    | refine vp F (c1) ?_
    | refine vp F (c2) ?_
    | refine vp F (c3) ?_
    | refine vp F (c4) ?_
    | refine vp F (c5) ?_
    | refine vp F (c6) ?_
    | (refine Qk (c7) rfl ?_; rintro la hla; refine rn F ?_))
  all_goals first
    | exact old _
    | exact ⟨rfl,rfl,(⟨a.pg,_,a.cp,b,a.lk,a.la,a.ix⟩,_),rfl,hs2,h2,by dsimp only; omega,h4⟩
    | exact ⟨rfl,rfl,(⟨a.pg,_,a.cp,n1,a.lk,a.la,a.ix⟩,_),rfl,hs3,h2,by dsimp only; omega,h4⟩
    | exact ⟨rfl,rfl,(⟨a.pg,_,a.cp,n1,a.lk,a.la,r⟩,_),rfl,hs3,h2,by dsimp only; omega,h5⟩
    | exact ⟨rfl,rfl,(⟨a.pg,_,a.cp,n1,a.lk,la,r⟩,_),rfl,hs3,h2,Nat.le_trans hla (Nat.succ_le_succ h3),h5⟩
    | exact ⟨rfl,rfl,(⟨a.pg,_,a.cp,n2,a.lk,a.la,a.ix⟩,_),rfl,hs4,h2,by dsimp only; omega,h4⟩
    | exact ⟨rfl,rfl,(⟨a.pg,_,a.cp,n2,a.lk,a.la,r⟩,_),rfl,hs4,h2,by dsimp only; omega,h5⟩
    | exact ⟨rfl,rfl,(⟨a.pg,_,a.cp,n2,a.lk,la,r⟩,_),rfl,hs4,h2,Nat.le_trans hla (Nat.succ_le_succ h3),h5⟩
theorem QoI (x:Lg) (hx:x.es.length<=1000000) (n:Int):VCalls prog 219 [.agg x.c,.int .i64 n] [] (QF anD fun r=>r.1.sm 256):=by
  refine dk Tryz.func219 ?_
  have c1:=Qrx x hx
  have c2:=Qnc n
  (unfold Tryz.f219; refine rn trivial ?_)
  refine rn F ?_
  repeat' (first
    | with_reducible exact ⟨⟩
    | (refine sB F ?_ ?_<;>intro hZ)
    | (refine Qk (c1) rfl ?_; rintro ⟨c,at_,ok⟩ hc; refine rn F ?_)
    | (refine Qk (c2) rfl ?_; rintro ⟨ix,e⟩ hi; refine rn F ?_))
  all_goals first
    | exact ⟨rfl,rfl,(An0,24),rfl,Qt4 _⟩
    | exact ⟨rfl,rfl,(⟨n,1,0,[],[],[],ix⟩,0),rfl,QM _,Nat.zero_le _,Nat.zero_le _,hi⟩
    | exact ⟨rfl,rfl,(⟨n,c.nx,at_,c.tx,[],c.dl,c.ix⟩,0),rfl,hc.1.mono (by decide),Nat.zero_le _,hc.2.1,hc.2.2⟩
    | skip
section
attribute [local go_sem] QzD QA9 QBB QBA Qs0 QfG Qcz QcZ Qcf QaU Qay
structure AnS (x:Lg) where
  i:Nat
  a:An
  hi:i<=x.es.length
  ha:a.sm (256 + i)
structure LoS (l:List Tx) where
  i:Nat
  out:List Tx
  hi:i<=l.length
  ho:out.length<=i
  hs:∀ t ∈ out,t.ss
def Za:List DV:=[.int .i64 0,.int .i64 0,.int .i64 0,.pv (.slc []),.pv (.slc []),.pv (.slc []),.pv (.slc [])]
theorem Qlm (x:Lg) (hx:x.es.length<=4096) (a:An) (ha:a.sm 10000) (out:List Tx) (ho:smN 65 out):VWp prog (Qct 8 (Qcz Tryz.f175)) (Qjw prog [ResultVar.cell 4 267,ResultVar.tmp 5] 0 (QF anD fun r=>r.1.sm 10000)) ⟨98,0,[(9,.pv (.sl (fz Qah out))),(6,.ptr 2 0),(4,.ptr 1 0),(2,.ptr 0 0)],[⟨25,true,x.c⟩,⟨267,true,Za⟩,⟨267,true,a.d⟩]⟩:=by
  refine Qs _ _ _ ?_
  have c4:=Qvg x (by omega) out ho
  unfold Za
  (unfold Tryz.f175; refine rn trivial ?_)
  refine rn F ?_
  repeat' (first
    | with_reducible exact ⟨⟩
    | (refine sB F ?_ ?_<;>intro hZ)
    | (refine Qk (c4) rfl ?_; rintro ⟨lk,e⟩ hlk; refine rn F ?_))
  · exact ⟨rfl,rfl,(An0,_),rfl,Qt4 _⟩
  · exact ⟨rfl,rfl,(⟨a.pg,a.nx,a.cp,out,lk,a.la,a.ix⟩,0),rfl,ho,hlk,ha.2.2.1,ha.2.2.2⟩
theorem QoJ (x:Lg) (hx:x.es.length<=4096) (n:Int):VCalls prog 175 [.agg x.c,.int .i64 n] [] (QF anD fun r=>r.1.sm 10000):=by
  refine QbM (fn:=Tryz.f175) (c:=Qcz Tryz.f175) Tryz.func175 rfl (by kernel_rfl) (by simp [Tryz.f175]) (VWp.postK ?_)
  refine QBm 8 ?_
  have tail:=fun a ha out ho=>Qlm x hx a ha out ho
  generalize Qct 8 (Qcz Tryz.f175) = rest at *
  have c1:=Qad x (by omega)
  have c2:=QoI x (by omega) n
  generalize lgB x = ok at *
  have err:∀ z,QF anD (fun r=>r.1.sm 10000) (anD (An0,z)) []:=fun z=>⟨rfl,rfl,(An0,z),rfl,Qt4 _⟩
  (unfold Tryz.f175; refine rn trivial ?_)
  refine rn F ?_
  repeat' (first
    | with_reducible exact ⟨⟩
    | (refine sG F ?_ ?_<;>intro hZ)
    | (refine sB F ?_ ?_<;>intro hZ)
    | refine vp F (c1) ?_
    | (refine Qk (c2) rfl ?_; rintro ⟨a0,e0⟩ h0; refine rn F ?_))
  all_goals first | exact err _ | skip
  dsimp only at h0
  refine Qh (fun s:AnS x=>⟨98,0,[(8,.int .i64 s.i),(6,.ptr 2 0),(4,.ptr 1 0),(2,.ptr 0 0)],[⟨25,true,x.c⟩,⟨267,true,Za⟩,⟨267,true,s.a.d⟩]⟩) (fun s=>x.es.length - s.i) ⟨0,a0,Nat.zero_le _,h0⟩ (gc [0,1,2]) ?_
  rintro ⟨i,a,hi,ha⟩
  dsimp only
  unfold Za
  by_cases hil:i < x.es.length
  · have hg:=QdB x.es i hil
    have c3:=Qrs a (256 + i) (by omega) ha (x.es.getD i E0)
    generalize x.es.getD i E0 = e at *
    have F:=@hg
    refine rn F ?_
    repeat' (first
      | with_reducible exact ⟨⟩
      | (refine sB F ?_ ?_<;>intro hZ)
      | (refine Qk (c3) rfl ?_; rintro ⟨a1,e1⟩ h1; refine rn F ?_)
      | (refine Qd (id:=11) [0,1,2,3,4,5,6,7,8] [] (by kernel_rfl) (by kernel_rfl) ?_; refine rn F ?_)
      | (refine Qd (id:=12) [0,1,2,3,4,5] [⟨[],[],6,[1,2,3,4],[7,8,9]⟩,⟨[],[],10,[9],[]⟩,⟨[],[],11,[],[]⟩] (by kernel_rfl) (by kernel_rfl) ?_; refine rn F ?_))
    all_goals first
      | exact err _
      | exact ⟨⟨i + 1,a,hil,ha.1,ha.2.1,Nat.le_succ_of_le ha.2.2.1,ha.2.2.2⟩,by dsimp only; omega,(gc [0,1,2])⟩
      | exact ⟨⟨i + 1,a1,hil,h1⟩,by dsimp only; omega,(gc [0,1,2])⟩
      | skip
  have F:=trivial
  refine rn F ?_
  refine VLoop.nilOwn 9 218 6 rfl ?_
  have hlo:=ha.1.1
  refine Qh (fun s:LoS a.lo=>⟨98,0,[(10,.int .i64 s.i),(9,.own 3 6 0 s.out.length),(6,.ptr 2 0),(4,.ptr 1 0),(2,.ptr 0 0)],[⟨25,true,x.c⟩,⟨267,true,Za⟩,⟨267,true,a.d⟩,⟨218,true,cells Qah s.out⟩]⟩) (fun s=>a.lo.length - s.i) ⟨0,[],Nat.zero_le _,Nat.zero_le _,fun t h=>by simp at h⟩ (gc [0,1,2,3]) ?_
  rintro ⟨k,out,hk,ho,hs⟩
  dsimp only
  unfold Za
  by_cases hkl:k < a.lo.length
  · have hg:=QdV a.lo k hkl
    have hss:(a.lo.getD k Tx0).ss:=by rw [Qn _ _ hkl]; exact ha.1.2 _ (List.getElem_mem hkl)
    have hb:(out.length + 1) * 80<=140737488355328:=Nat.le_trans (Nat.mul_le_mul_right 80 (show out.length + 1<=1000 by omega)) (by decide)
    generalize a.lo.getD k Tx0 = t at *
    have F:=(And.intro @hg @hb)
    refine rn F ?_
    repeat' (first
      | with_reducible exact ⟨⟩
      | (refine sB F ?_ ?_<;>intro hZ))
    · have hl2:(out ++ [t]).length = out.length + 1:=by simp
      refine ⟨⟨k + 1,out ++ [t],hkl,by rw [hl2]; omega,fun z hz=>?_⟩,by dsimp only; omega,?_⟩
      · rcases List.mem_append.1 hz with h | h
        · exact hs z h
        · rw [List.mem_singleton.1 h]; exact hss
      dsimp only
      rw [hl2]
      exact (gc [0,1,2,5])
    · exact ⟨⟨k + 1,out,hkl,by omega,hs⟩,by dsimp only; omega,(gc [0,1,2,3])⟩
  have hsm:smN 65 out:=⟨by omega,hs⟩
  have F:=trivial
  refine rn F ?_
  refine ⟨⟨98,0,[(9,.pv (.sl (fz Qah out))),(6,.ptr 2 0),(4,.ptr 1 0),(2,.ptr 0 0)],[⟨25,true,x.c⟩,⟨267,true,Za⟩,⟨267,true,a.d⟩]⟩,.fzN (n:=3) ⟨rfl,rfl,Nat.zero_le _,by simp,?_,?_⟩,tail a (by have:=ha; exact ⟨this.1,this.2.1,Nat.le_trans this.2.2.1 (by omega),this.2.2.2⟩) out hsm⟩
  · rfl
  · refine ⟨?_,rfl,rfl,rfl,trivial⟩
    (refine rn trivial ?_; try with_reducible exact ⟨⟩)
end
section
attribute [local go_sem] Qbb
structure Rd where
  tx:Int
  pg:Int
  sl:Int
  at_:Int
  cell:Ce
def Qlx:Enc Rd:=⟨6,fun r=>[.lit (.int .i64 r.tx),.lit (.int .i64 r.pg),.lit (.int .i64 r.sl),.lit (.int .i64 r.at_),.lit (.bool r.cell.set),.str r.cell.data],by decide,fun _=>rfl⟩
theorem QEr (l:List Rd):(cells Qlx l).length = l.length * 6:=QG Qlx l
theorem QFe (l:List Rd) (n:Nat) (h:l.length * 6<=n):(cells Qlx l).take n = cells Qlx l:=by rw [List.take_of_length_le]; rw [QEr]; exact h
theorem QE1 {n:Nat} {hp:Qa} {len:Nat} {l:List Rd} (h:l.length = len):QgN n hp 0 6 len (some (cells Qlx l)) = some (.sl (fz Qlx l)):=QU Qlx h
theorem QEa (l:List Rd) (a b c d:Int) (x:Bool) (s:List UInt8):cells Qlx l ++ [.pv (.lit (.int .i64 a)),.pv (.lit (.int .i64 b)),.pv (.lit (.int .i64 c)),.pv (.lit (.int .i64 d)),.pv (.lit (.bool x)),.pv (.str s)] = cells Qlx (l ++ [⟨a,b,c,d,⟨x,s⟩⟩]):=by rw [Qx]; rfl
attribute [go_sem] QEr QFe QE1 QEa
structure Sp where
  kind:Int
  tx:Int
  pg:Int
  torn:Int
  cut:Int
  a:Ac
@[go_sem] def Sp.d (t:Sp):List DV:=[.int .i64 t.kind,.int .i64 t.tx,.int .i64 t.pg,.int .i64 t.torn,.int .i64 t.cut,.int .i64 t.a.kind,.int .i64 t.a.pg,.int .i64 t.a.sl,.pv (.str t.a.data)]
structure Sc where
  s:Sv
  tx:List Int
  rd:List Rd
  dead:Bool
def Sc.sm (c:Sc) (n:Nat):Prop:=c.s.sm/\c.tx.length<=n/\c.rd.length<=n
@[go_sem] def scB (c:Sc) (i j:Nat):Blk:=⟨136,true,c.s.d ++ [.own i 1 0 c.tx.length,.own j 6 0 c.rd.length,.bool c.dead]⟩
@[go_sem] def scT (l:List Int):Blk:=⟨3,true,cells Q0 l⟩
@[go_sem] def scR (l:List Rd):Blk:=⟨175,true,cells Qlx l⟩
@[go_sem] def Qts:Blk:=⟨3,false,[]⟩
@[go_sem] def Qpd:Blk:=⟨175,false,[]⟩
def ScEnd {α:Type} (f:α->DV) (Q:Nat->Sc->α->Prop):DV->Qa->Prop:=fun r h'=>∃ c a B,r = f a/\(f a).nums (fun _=>false) = true/\((Q 0 c a/\h' = scB c 1 2 :: scT c.tx :: scR c.rd :: [B])\/(Q 1 c a/\h' = scB c 3 2 :: Qts :: scR c.rd :: scT c.tx :: [B])\/(Q 2 c a/\h' = scB c 1 3 :: scT c.tx :: Qpd :: scR c.rd :: [B]))
theorem ScEnd.mono {α:Type} {f:α->DV} {Q Q':Nat->Sc->α->Prop} (h:∀ n c a,Q n c a->Q' n c a):∀ r h',ScEnd f Q r h'->ScEnd f Q' r h'
  | _,_,⟨c,a,B,e1,e2,.inl ⟨q,e⟩⟩=>⟨c,a,B,e1,e2,.inl ⟨h _ _ _ q,e⟩⟩
  | _,_,⟨c,a,B,e1,e2,.inr (.inl ⟨q,e⟩)⟩=>⟨c,a,B,e1,e2,.inr (.inl ⟨h _ _ _ q,e⟩)⟩
  | _,_,⟨c,a,B,e1,e2,.inr (.inr ⟨q,e⟩)⟩=>⟨c,a,B,e1,e2,.inr (.inr ⟨h _ _ _ q,e⟩)⟩
theorem QjM {α:Type} {f:α->DV} {Q:Nat->Sc->α->Prop} {P:Program} {g:FuncId} {args args0:List DV} {hp:Qa} {K:DV->Qa->Prop} {c:Sc} (k0 k1 k2:Nat) (cc:VCalls P g args0 [scB c 1 2,scT c.tx,scR c.rd] (ScEnd f Q)) (hk0:hp[k0]? = some (scB c k1 k2)) (hk1:hp[k1]? = some (scT c.tx)) (hk2:hp[k2]? = some (scR c.rd)) (n01:k0 ≠ k1) (n02:k0 ≠ k2) (n12:k1 ≠ k2)
    (ha0:args0 = args.map (DV.ren fun j=>[k0,k1,k2].idxOf j)) (ha:DV.nums.go [k0,k1,k2].contains args = true)
    (hN:∀ c a,Q 0 c a->∀ B,K (f a) (((hp.set k0 (scB c k1 k2)).set k1 (scT c.tx)).set k2 (scR c.rd) ++ [B]))
    (hT:∀ c a,Q 1 c a->∀ B,K (f a) (((hp.set k0 (scB c hp.length k2)).set k1 Qts).set k2 (scR c.rd) ++ scT c.tx :: [B]))
    (hR:∀ c a,Q 2 c a->∀ B,K (f a) (((hp.set k0 (scB c k1 hp.length)).set k1 (scT c.tx)).set k2 Qpd ++ scR c.rd :: [B])):VCalls P g args hp K:=by
  have l0:k0 < hp.length:=(List.getElem?_eq_some_iff.1 hk0).1
  have l1:k1 < hp.length:=(List.getElem?_eq_some_iff.1 hk1).1
  have l2:k2 < hp.length:=(List.getElem?_eq_some_iff.1 hk2).1
  have q1:(k0 == k1) = false:=by simp [n01]
  have q2:(k0 == k2) = false:=by simp [n02]
  have q3:(k1 == k2) = false:=by simp [n12]
  have rt:∀ (σ:Nat->Nat) l,QcG σ (scT l) = scT l:=fun σ l=>QaL (Qr _ _ _)
  have rr:∀ (σ:Nat->Nat) l,QcG σ (scR l) = scR l:=fun σ l=>QaL (Qr _ _ _)
  have rs:∀ (σ:Nat->Nat) (c:Sc) i j,QcG σ (scB c i j) = scB c (σ i) (σ j):=fun σ c i j=>rfl
  have i0:[k0,k1,k2].idxOf k0 = 0:=by simp
  have i1:[k0,k1,k2].idxOf k1 = 1:=by simp [List.idxOf_cons,q1]
  have i2:[k0,k1,k2].idxOf k2 = 2:=by simp [List.idxOf_cons,q2,q3]
  refine (VCalls.frame [k0,k1,k2] (by simp [n01,n02,n12]) ?_ ?_ cc ha0 ha).mono ?_
  · simp only [QkM,List.map_cons,List.map_nil,hk0,hk1,hk2,Option.map_some,Qg,rt,rr,rs,i1,i2]
  · unfold QhX
    rw [List.all_eq_true]
    intro k hk
    simp only [List.mem_cons,List.not_mem_nil,or_false] at hk
    rcases hk with rfl | rfl | rfl
    · rw [hk0]
      simp [scB,Sv.d,DV.nums,DV.nums.go]
    · rw [hk1]
      dsimp only
      rw [show (scT c.tx).cells = cells Q0 c.tx from rfl,QP _ _ (Qr _ _ _)]; simp
    · rw [hk2]
      dsimp only
      rw [show (scR c.rd).cells = cells Qlx c.rd from rfl,QP _ _ (Qr _ _ _)]; simp
  · rintro r h2 ⟨r0,h',⟨c1,a,B,rfl,hn,e⟩,-,rfl,rfl⟩
    rw [Qek _ _ hn]
    have b1:back [k0,k1,k2] hp.length 1 = k1:=rfl
    have b2:back [k0,k1,k2] hp.length 2 = k2:=rfl
    have b3:back [k0,k1,k2] hp.length 3 = hp.length:=rfl
    have rI:∀ (σ:Nat->Nat),QcG σ Qts = Qts:=fun σ=>rfl
    have rO:∀ (σ:Nat->Nat),QcG σ Qpd = Qpd:=fun σ=>rfl
    rcases e with ⟨q,rfl⟩ | ⟨q,rfl⟩ | ⟨q,rfl⟩<;>rw [Qlg l0 l1 l2 n01 n02 n12]
    · rw [rs,rt,rr,b1,b2]; exact hN c1 a q _
    · rw [rs,rI,rr,b2,b3,List.map_cons,rt]; exact hT c1 a q _
    · rw [rs,rt,rO,b1,b3,List.map_cons,rr]; exact hR c1 a q _
def QfA (e:Int):Rs:=if e = 0 then ⟨1,0,0,Ce0,0⟩ else QaH e
theorem Qeh (e:Int):VCalls prog 94 [.int .i64 e] [] (Ret (.agg (QfA e).d)):=by
  refine dd Tryz.func94 ?_
  have c1:=Qaa e
  (unfold Tryz.f94; refine rn trivial ?_)
  unfold QfA
  refine rn F ?_
  repeat' (first
    | with_reducible exact ⟨⟩
    | (refine sB F ?_ ?_<;>intro hZ)
    | refine vp F (c1) ?_)
  all_goals first
    | (rw [if_pos (by assumption)]; first | done | rfl)
    | (rw [if_neg (by assumption)]; first | done | rfl)
@[go_sem] def rsD (r:Rs):DV:=.agg r.d
theorem Qgq (c:Sc) (s:Sv) (e:Int):VCalls prog 90 [.ptr 0 0,.agg s.d,.int .i64 e] [scB c 1 2,scT c.tx,scR c.rd] (ScEnd rsD fun n c' r=>n = 0/\c' = ⟨if e = 0 then s else c.s,c.tx,c.rd,c.dead⟩/\r = QfA e):=by
  refine QK (fn:=Tryz.f90) Tryz.func90 rfl (by kernel_rfl) (by simp [Tryz.f90]) ?_
  have c1:=Qeh e
  (unfold Tryz.f90; refine rn trivial ?_)
  refine rn F ?_
  repeat' (first
    | with_reducible exact ⟨⟩
    | (refine sB F ?_ ?_<;>intro hZ)
    | refine vp F (c1) ?_)
  · exact QB ⟨15,3,[(6,.ptr 3 0)],[scB ⟨s,c.tx,c.rd,c.dead⟩ 1 2,scT c.tx,scR c.rd,⟨138,true,(QfA e).d⟩]⟩ (gc [0,1,2,4]) ⟨⟨s,c.tx,c.rd,c.dead⟩,QfA e,_,rfl,rfl,.inl ⟨⟨rfl,by rw [if_pos (by assumption)],rfl⟩,rfl⟩⟩
  · exact QB ⟨15,3,[(6,.ptr 3 0)],[scB c 1 2,scT c.tx,scR c.rd,⟨138,true,(QfA e).d⟩]⟩ (gc [0,1,2,4]) ⟨c,QfA e,_,rfl,rfl,.inl ⟨⟨rfl,by rw [if_neg (by assumption)],rfl⟩,rfl⟩⟩
end
section
attribute [local go_sem] Qbb
def scQ (c:Sc) (n m:Nat) (c':Sc) (_:Rs):Prop:=m ≠ 1/\c'.sm n/\c'.dead = c.dead/\Ev c.s.k.lg c'.s.k.lg
theorem QuT (c:Sc) (n:Nat) (hc:c.sm n) (r:Rs):scQ c (n + 1) 0 c r:=⟨by decide,⟨hc.1,Nat.le_succ_of_le hc.2.1,Nat.le_succ_of_le hc.2.2⟩,rfl,Ev.refl _⟩
theorem QB0 (c:Sc) (n:Nat) (hn:n<=2000) (hc:c.sm n) (t:Sp):VCalls prog 91 [.ptr 0 0,.agg t.d] [scB c 1 2,scT c.tx,scR c.rd] (ScEnd rsD (scQ c (n + 1))):=by
  refine QK (fn:=Tryz.f91) Tryz.func91 rfl (by kernel_rfl) (by simp [Tryz.f91]) ?_
  have c1:=Qaa 16
  have hq0:=QuT c n hc
  have h1:=hc.2.1
  have h2:=hc.2.2
  by_cases h0:∃ i:Nat,i < c.tx.length/\t.tx = i + 1
  rotate_left
  · have h3:t.tx < 1\/c.tx.length < t.tx:=by
      by_cases ha:t.tx < 1
      · exact .inl ha
      · by_cases hb:c.tx.length < t.tx
        · exact .inr hb
        · exact absurd ⟨(t.tx - 1).toNat,by omega,by omega⟩ h0
    (unfold Tryz.f91; refine rn trivial ?_)
    refine rn F ?_
    repeat' (first
      | with_reducible exact ⟨⟩
      | (refine sG F ?_ ?_<;>intro hZ)
      | refine vp F (c1) ?_
      | (refine Qd (id:=1) [0,1,2,3,4,5,6,7,8,9,10,11,12,13,14,15,16,17,18,19,20,21,22,23,24] [] (by kernel_rfl) (by kernel_rfl) ?_; refine rn F ?_))
    all_goals first
      | (exfalso; omega)
      | exact QB ⟨95,3,[(4,.ptr 3 0)],[scB c 1 2,scT (Sc.tx c),scR (Sc.rd c),⟨138,true,Rs.d (QaH 16)⟩]⟩ (gc [0,1,2,4]) ⟨c,QaH 16,_,rfl,rfl,.inl ⟨hq0 _,rfl⟩⟩
      | skip
  obtain ⟨i,hi,ht⟩:=h0
  have hg:=Qe9 c.tx i hi
  have d1:=QBP c.s hc.1 (c.tx.getD i 0) t.a
  have e1:(↑i + 1 - 1:Int) = ↑i:=by omega
  have hlt:(i < c.tx.length) = True:=eq_true hi
  (unfold Tryz.f91; refine rn trivial ?_)
  simp only [ht]
  have F:=(And.intro @hg (And.intro @e1 @hlt))
  refine rn F ?_
  repeat' (first
    | with_reducible exact ⟨⟩
    | (refine sG F ?_ ?_<;>intro hZ)
    | (refine sB F ?_ ?_<;>intro hZ)
    | refine vp F (c1) ?_
    | (refine Qk (d1) rfl ?_; rintro ⟨s2,r2⟩ hq; refine rn F ?_)
    | refine vp F (QfL s2.k.lg (Nat.le_trans hq.1.1.1 (by decide))) ?_
    | (refine Qd (id:=1) [0,1,2,3,4,5,6,7,8,9,10,11,12,13,14,15,16,17,18,19,20,21,22,23,24] [] (by kernel_rfl) (by kernel_rfl) ?_; refine rn F ?_)
    | (refine Qd (id:=3) [0,1,2,3,4,5,6,7,8] [⟨[],[],9,[],[]⟩] (by kernel_rfl) (by kernel_rfl) ?_; refine rn F ?_)
    | (refine Qd (id:=4) [0,1,2,3,4,5,6] [⟨[11,12],[],7,[0,1,2,5],[8,9,10]⟩,⟨[11,12],[11],13,[10],[]⟩,⟨[12],[12],14,[],[]⟩] (by kernel_rfl) (by kernel_rfl) ?_; refine rn F ?_)
    | (refine Qd (id:=9) [0,1,2,3,4,5,6,7,8,9,10,11,12,13,14,16,17] [⟨[],[],15,[0,1,2,3,4,5,6,7,8,9,10,11,12,13,16,17],[18]⟩,⟨[19],[19],20,[0,1,2,3,5,6,7,8,9,10,11,12,13,14,16,17,18],[21,22]⟩,⟨[],[],23,[21],[]⟩] (by kernel_rfl) (by kernel_rfl) ?_; refine rn F ?_))
  all_goals first
    | exact QB ⟨95,3,[(4,.ptr 3 0)],[scB c 1 2,scT (Sc.tx c),scR (Sc.rd c),⟨138,true,Rs.d (QaH 16)⟩]⟩ (gc [0,1,2,4]) ⟨c,QaH 16,_,rfl,rfl,.inl ⟨hq0 _,rfl⟩⟩
    | exact QB ⟨95,3,[(4,.ptr 3 0)],[scB c 1 2,scT (Sc.tx c),scR (Sc.rd c),⟨138,true,Rs.d (r2)⟩]⟩ (gc [0,1,2,4]) ⟨c,r2,_,rfl,rfl,.inl ⟨hq0 _,rfl⟩⟩
    | exact QB ⟨95,3,[(4,.ptr 3 0)],[scB ⟨s2,c.tx,c.rd,c.dead⟩ 1 2,scT (Sc.tx ⟨s2,c.tx,c.rd,c.dead⟩),scR (Sc.rd ⟨s2,c.tx,c.rd,c.dead⟩),⟨138,true,Rs.d (r2)⟩]⟩ (gc [0,1,2,4]) ⟨⟨s2,c.tx,c.rd,c.dead⟩,r2,_,rfl,rfl,.inl ⟨⟨by decide,⟨hq.1,by dsimp only; omega,by dsimp only; omega⟩,rfl,hq.2⟩,rfl⟩⟩
    | skip
  have hl:(c.rd ++ [(⟨c.tx.getD i 0,t.a.pg,t.a.sl,QgH s2.k.lg,r2.cell⟩:Rd)]).length = c.rd.length + 1:=by simp
  generalize hr:c.rd ++ [(⟨c.tx.getD i 0,t.a.pg,t.a.sl,QgH s2.k.lg,r2.cell⟩:Rd)] = rd at *
  rw [<- hl]
  exact QB ⟨95,3,[(4,.ptr 4 0)],[scB ⟨s2,c.tx,rd,c.dead⟩ 1 3,scT c.tx,Qpd,scR rd,⟨138,true,r2.d⟩]⟩ (gc [0,1,2,8,4]) ⟨⟨s2,c.tx,rd,c.dead⟩,r2,_,rfl,rfl,.inr (.inr ⟨⟨by decide,⟨hq.1,by dsimp only; omega,by dsimp only; omega⟩,rfl,hq.2⟩,rfl⟩)⟩
end
section
attribute [local go_sem] Qbb
def scI (I:Lg->Prop) (c:Sc) (n _:Nat) (c':Sc) (_:Rs):Prop:=c'.sm n/\(I c.s.k.lg->I c'.s.k.lg)
theorem Qm4 (I:Lg->Prop) (c:Sc) (n:Nat) (hc:c.sm n) (r:Rs):scI I c (n + 1) 0 c r:=⟨⟨hc.1,Nat.le_succ_of_le hc.2.1,Nat.le_succ_of_le hc.2.2⟩,id⟩
abbrev Qg5 (I:Lg->Prop) (c:Sc) (n:Nat) (t:Sp):Prop:=VCalls prog 70 [.ptr 0 0,.agg t.d] [scB c 1 2,scT c.tx,scR c.rd] (ScEnd rsD (scI I c (n + 1)))
theorem QsD (I:Lg->Prop) (hI:∀ x y,Ev x y->I x->I y) {s s2:Sv} {e:Int} (hs:s.sm) (hq:s2.sm/\(e = 0->Ev s.k.lg s2.k.lg)):(if e = 0 then s2 else s).sm/\(I s.k.lg->I (if e = 0 then s2 else s).k.lg):=by
  split
  · rename_i h; exact ⟨hq.1,hI _ _ (hq.2 h)⟩
  · exact ⟨hs,id⟩
theorem Qu3 (I:Lg->Prop) (hI:∀ x y,Ev x y->I x->I y) (c:Sc) (n:Nat) (hn:n<=2000) (hc:c.sm n) (t:Sp) (ht:t.kind = 3):Qg5 I c n t:=by
  refine QK (fn:=Tryz.f70) Tryz.func70 rfl (by kernel_rfl) (by simp [Tryz.f70]) ?_
  obtain ⟨k,tx,pg,torn,cut,a⟩:=t
  dsimp only at ht
  subst ht
  have c1:=Qrh c.s hc.1 pg
  (unfold Tryz.f70; refine rn trivial ?_)
  refine rn F ?_
  repeat' (first
    | with_reducible exact ⟨⟩
    | (refine Qk (c1) rfl ?_; rintro ⟨s2,e2⟩ hq; refine rn F ?_)
    | (refine QbT (id:=12) [[],[],[1],[1,2],[1,2,3],[],[5],[1,2,3,4,5,6],[1,2,3,4,5,6,7],[1,2,3,4,5,6,7],[0,1,2,3,4,5,6,7,8,9],[0,1,2,3,4,5,6,7,8,9,10]] [0,1,2,3,4,5,6] [⟨[],[],7,[0],[8,9]⟩,⟨[],[],10,[],[]⟩,⟨[],[],11,[],[]⟩] (by kernel_rfl) (by kernel_rfl) (by kernel_rfl) ?_; refine rn F ?_))
  refine QjM (c:=c) 0 1 2 (Qgq c s2 e2) rfl rfl rfl (by decide) (by decide) (by decide) rfl rfl ?_ (fun _ _ h=>absurd h.1 (by decide)) (fun _ _ h=>absurd h.1 (by decide))
  rintro _ _ ⟨-,rfl,rfl⟩ B
  obtain ⟨k1,k2⟩:=QsD I hI hc.1 hq
  generalize (if e2 = 0 then s2 else c.s) = s' at *
  refine rn trivial ?_
  exact QB ⟨132,3,[(4,.ptr 3 0)],[scB ⟨s',c.tx,c.rd,c.dead⟩ 1 2,scT (Sc.tx ⟨s',c.tx,c.rd,c.dead⟩),scR (Sc.rd ⟨s',c.tx,c.rd,c.dead⟩),⟨138,true,Rs.d (QfA e2)⟩]⟩ (gc [0,1,2,4]) ⟨⟨s',c.tx,c.rd,c.dead⟩,QfA e2,_,rfl,rfl,.inl ⟨⟨⟨k1,Nat.le_succ_of_le hc.2.1,Nat.le_succ_of_le hc.2.2⟩,k2⟩,rfl⟩⟩
theorem Qu2 (I:Lg->Prop) (hI:∀ x y,Ev x y->I x->I y) (c:Sc) (n:Nat) (hn:n<=2000) (hc:c.sm n) (t:Sp) (ht:t.kind = 4):Qg5 I c n t:=by
  refine QK (fn:=Tryz.f70) Tryz.func70 rfl (by kernel_rfl) (by simp [Tryz.f70]) ?_
  obtain ⟨k,tx,pg,torn,cut,a⟩:=t
  dsimp only at ht
  subst ht
  have c1:=Qrk c.s hc.1
  (unfold Tryz.f70; refine rn trivial ?_)
  refine rn F ?_
  repeat' (first
    | with_reducible exact ⟨⟩
    | (refine Qk (c1) rfl ?_; rintro ⟨s2,n2,e2⟩ hq; refine rn F ?_))
  refine QjM (c:=c) 0 1 2 (Qgq c s2 e2) rfl rfl rfl (by decide) (by decide) (by decide) rfl rfl ?_ (fun _ _ h=>absurd h.1 (by decide)) (fun _ _ h=>absurd h.1 (by decide))
  rintro _ _ ⟨-,rfl,rfl⟩ B
  obtain ⟨k1,k2⟩:=QsD I hI hc.1 hq
  generalize (if e2 = 0 then s2 else c.s) = s' at *
  refine rn trivial ?_
  exact QB ⟨132,3,[(4,.ptr 3 0)],[scB ⟨s',c.tx,c.rd,c.dead⟩ 1 2,scT (Sc.tx ⟨s',c.tx,c.rd,c.dead⟩),scR (Sc.rd ⟨s',c.tx,c.rd,c.dead⟩),⟨138,true,Rs.d (QfA e2)⟩]⟩ (gc [0,1,2,4]) ⟨⟨s',c.tx,c.rd,c.dead⟩,QfA e2,_,rfl,rfl,.inl ⟨⟨⟨k1,Nat.le_succ_of_le hc.2.1,Nat.le_succ_of_le hc.2.2⟩,k2⟩,rfl⟩⟩
theorem QuZ (I:Lg->Prop) (hI:∀ x y,Ev x y->I x->I y) (c:Sc) (n:Nat) (hn:n<=2000) (hc:c.sm n) (t:Sp) (ht:t.kind = 7):Qg5 I c n t:=by
  refine QK (fn:=Tryz.f70) Tryz.func70 rfl (by kernel_rfl) (by simp [Tryz.f70]) ?_
  obtain ⟨k,tx,pg,torn,cut,a⟩:=t
  dsimp only at ht
  subst ht
  have c1:=QyG c.s hc.1
  (unfold Tryz.f70; refine rn trivial ?_)
  refine rn F ?_
  repeat' (first
    | with_reducible exact ⟨⟩
    | (refine Qk (c1) rfl ?_; rintro ⟨s2,n2,e2⟩ hq; refine rn F ?_))
  refine QjM (c:=c) 0 1 2 (Qgq c s2 e2) rfl rfl rfl (by decide) (by decide) (by decide) rfl rfl ?_ (fun _ _ h=>absurd h.1 (by decide)) (fun _ _ h=>absurd h.1 (by decide))
  rintro _ _ ⟨-,rfl,rfl⟩ B
  obtain ⟨k1,k2⟩:=QsD I hI hc.1 hq
  generalize (if e2 = 0 then s2 else c.s) = s' at *
  refine rn trivial ?_
  exact QB ⟨132,3,[(4,.ptr 3 0)],[scB ⟨s',c.tx,c.rd,c.dead⟩ 1 2,scT (Sc.tx ⟨s',c.tx,c.rd,c.dead⟩),scR (Sc.rd ⟨s',c.tx,c.rd,c.dead⟩),⟨138,true,Rs.d (QfA e2)⟩]⟩ (gc [0,1,2,4]) ⟨⟨s',c.tx,c.rd,c.dead⟩,QfA e2,_,rfl,rfl,.inl ⟨⟨⟨k1,Nat.le_succ_of_le hc.2.1,Nat.le_succ_of_le hc.2.2⟩,k2⟩,rfl⟩⟩
theorem Qu1 (I:Lg->Prop) (hI:∀ x y,Ev x y->I x->I y) (c:Sc) (n:Nat) (hn:n<=2000) (hc:c.sm n) (t:Sp) (ht:t.kind = 5):Qg5 I c n t:=by
  refine QK (fn:=Tryz.f70) Tryz.func70 rfl (by kernel_rfl) (by simp [Tryz.f70]) ?_
  obtain ⟨k,tx,pg,torn,cut,a⟩:=t
  dsimp only at ht
  subst ht
  have c1:=QfL c.s.k.lg (Nat.le_trans hc.1.1.1 (by decide))
  have c2:=QiJ c.s.k.lg (Nat.le_trans hc.1.1.1 (by decide)) (QgH c.s.k.lg)
  have c3:=fun e=>Qeh e
  (unfold Tryz.f70; refine rn trivial ?_)
  refine rn F ?_
  repeat' (first
    | with_reducible exact ⟨⟩
    | (refine sB F ?_ ?_<;>intro hZ)
    | refine vp F (c1) ?_
    | refine vp F (c2) ?_
    | refine vp F (c3 _) ?_
    | (refine QbT (id:=17) [[],[0],[0,1],[0,1,2],[0,1,2,3],[0,1,2,3,4],[],[6],[6,7],[6,7,8],[6,7,8,9],[6,7,8,9,10],[6,7,8,9,10,11],[0,1,2,3,4,5,6,7,8,9,10,11,12],[0,1,2,3,4,5,6,7,8,9,10,11,12,13],[0,1,2,3,4,5,6,7,8,9,10,11,12,13,14],[0,1,2,3,4,5,6,7,8,9,10,11,12,13,14],[],[0,1,2,3,4,5,6,7,8,9,10,11,12,13,14,15,17],[0,1,2,3,4,5,6,7,8,9,10,11,12,13,14,15,16,17,18]] [0,1,2,3,4,5,6,7,8,9,10,11] [⟨[17],[],12,[0,1,2,3,4,5],[]⟩,⟨[17],[],13,[],[14,15,16]⟩,⟨[17],[17],18,[16],[]⟩,⟨[],[],19,[],[]⟩] (by kernel_rfl) (by kernel_rfl) (by kernel_rfl) ?_; refine rn F ?_))
  · exact QB ⟨132,3,[(4,.ptr 3 0)],[scB ⟨⟨⟨c.s.k.pg,c.s.k.nx,(QaG c.s.k.lg (QgH c.s.k.lg)).1,c.s.k.pl,c.s.k.lk,c.s.k.tx,c.s.k.ix,c.s.k.la⟩,c.s.v⟩,c.tx,c.rd,c.dead⟩ 1 2,scT (Sc.tx ⟨⟨⟨c.s.k.pg,c.s.k.nx,(QaG c.s.k.lg (QgH c.s.k.lg)).1,c.s.k.pl,c.s.k.lk,c.s.k.tx,c.s.k.ix,c.s.k.la⟩,c.s.v⟩,c.tx,c.rd,c.dead⟩),scR (Sc.rd ⟨⟨⟨c.s.k.pg,c.s.k.nx,(QaG c.s.k.lg (QgH c.s.k.lg)).1,c.s.k.pl,c.s.k.lk,c.s.k.tx,c.s.k.ix,c.s.k.la⟩,c.s.v⟩,c.tx,c.rd,c.dead⟩),⟨138,true,Rs.d (QfA _)⟩]⟩ (gc [0,1,2,4]) ⟨⟨⟨⟨c.s.k.pg,c.s.k.nx,(QaG c.s.k.lg (QgH c.s.k.lg)).1,c.s.k.pl,c.s.k.lk,c.s.k.tx,c.s.k.ix,c.s.k.la⟩,c.s.v⟩,c.tx,c.rd,c.dead⟩,QfA _,_,rfl,rfl,.inl ⟨⟨⟨⟨⟨Qh2 _ _ hc.1.1.1,hc.1.1.2⟩,hc.1.2⟩,Nat.le_succ_of_le hc.2.1,Nat.le_succ_of_le hc.2.2⟩,hI _ _ (Qk2 (by assumption))⟩,rfl⟩⟩
  · exact QB ⟨132,3,[(4,.ptr 3 0)],[scB c 1 2,scT (Sc.tx c),scR (Sc.rd c),⟨138,true,Rs.d (QfA _)⟩]⟩ (gc [0,1,2,4]) ⟨c,QfA _,_,rfl,rfl,.inl ⟨Qm4 I c n hc _,rfl⟩⟩
theorem Qu4 (I:Lg->Prop) (hI:∀ x y,Ev x y->I x->I y) (c:Sc) (n:Nat) (hn:n<=2000) (hc:c.sm n) (t:Sp) (ht:t.kind = 2):Qg5 I c n t:=by
  refine QK (fn:=Tryz.f70) Tryz.func70 rfl (by kernel_rfl) (by simp [Tryz.f70]) ?_
  obtain ⟨k,tx,pg,torn,cut,a⟩:=t
  dsimp only at ht
  subst ht
  (unfold Tryz.f70; refine rn trivial ?_)
  refine QjM (c:=c) 0 1 2 (QB0 c n hn hc ⟨2,tx,pg,torn,cut,a⟩) rfl rfl rfl (by decide) (by decide) (by decide) rfl rfl ?_ (fun _ _ h=>absurd rfl h.1) ?_
  · rintro c1 r1 ⟨-,q1,-,q2⟩ B
    refine rn trivial ?_
    exact QB ⟨132,3,[(4,.ptr 3 0)],[scB c1 1 2,scT (Sc.tx c1),scR (Sc.rd c1),⟨138,true,Rs.d (r1)⟩]⟩ (gc [0,1,2,4]) ⟨c1,r1,_,rfl,rfl,.inl ⟨⟨q1,hI _ _ q2⟩,rfl⟩⟩
  · rintro c1 r1 ⟨-,q1,-,q2⟩ B
    refine rn trivial ?_
    exact QB ⟨132,3,[(4,.ptr 4 0)],[scB c1 1 3,scT c1.tx,Qpd,scR c1.rd,⟨138,true,r1.d⟩]⟩ (gc [0,1,2,5,4]) ⟨c1,r1,_,rfl,rfl,.inr (.inr ⟨⟨q1,hI _ _ q2⟩,rfl⟩)⟩
theorem Qu5 (I:Lg->Prop) (hI:∀ x y,Ev x y->I x->I y) (c:Sc) (n:Nat) (hn:n<=2000) (hc:c.sm n) (t:Sp) (ht:t.kind = 1):Qg5 I c n t:=by
  refine QK (fn:=Tryz.f70) Tryz.func70 rfl (by kernel_rfl) (by simp [Tryz.f70]) ?_
  obtain ⟨k,tx,pg,torn,cut,a⟩:=t
  dsimp only at ht
  subst ht
  have c1:=Qrl c.s hc.1
  (unfold Tryz.f70; refine rn trivial ?_)
  have hb:(c.tx.length + 1) * 8<=140737488355328:=by have:=hc.2.1; omega
  have F:=@hb
  refine rn F ?_
  repeat' (first
    | with_reducible exact ⟨⟩
    | (refine sB F ?_ ?_<;>intro hZ)
    | (refine Qk (c1) rfl ?_; rintro ⟨s2,n2,e2⟩ hq; refine rn F ?_))
  rotate_left
  · refine QjM (c:=c) 0 1 2 (Qgq c s2 e2) rfl rfl rfl (by decide) (by decide) (by decide) rfl rfl ?_ (fun _ _ h=>absurd h.1 (by decide)) (fun _ _ h=>absurd h.1 (by decide))
    rintro _ _ ⟨-,rfl,rfl⟩ B
    obtain ⟨k1,k2⟩:=QsD I hI hc.1 hq
    generalize (if e2 = 0 then s2 else c.s) = s' at *
    refine rn trivial ?_
    exact QB ⟨132,3,[(4,.ptr 3 0)],[scB ⟨s',c.tx,c.rd,c.dead⟩ 1 2,scT (Sc.tx ⟨s',c.tx,c.rd,c.dead⟩),scR (Sc.rd ⟨s',c.tx,c.rd,c.dead⟩),⟨138,true,Rs.d ({ QfA e2 with tx:=n2 })⟩]⟩ (gc [0,1,2,4]) ⟨⟨s',c.tx,c.rd,c.dead⟩,{ QfA e2 with tx:=n2 },_,rfl,rfl,.inl ⟨⟨⟨k1,Nat.le_succ_of_le hc.2.1,Nat.le_succ_of_le hc.2.2⟩,k2⟩,rfl⟩⟩
  have hl:(c.tx ++ [n2]).length = c.tx.length + 1:=by simp
  generalize c.tx ++ [n2] = l at *
  rw [<- hl]
  refine QjM (c:=⟨c.s,l,c.rd,c.dead⟩) 0 7 2 (Qgq ⟨c.s,l,c.rd,c.dead⟩ s2 e2) rfl rfl rfl (by decide) (by decide) (by decide) rfl rfl ?_ (fun _ _ h=>absurd h.1 (by decide)) (fun _ _ h=>absurd h.1 (by decide))
  rintro _ _ ⟨-,rfl,rfl⟩ B
  obtain ⟨k1,k2⟩:=QsD I hI hc.1 hq
  generalize (if e2 = 0 then s2 else c.s) = s' at *
  have h1:=hc.2.1
  refine rn trivial ?_
  exact QB ⟨132,3,[(4,.ptr 4 0)],[scB ⟨s',l,c.rd,c.dead⟩ 3 2,Qts,scR c.rd,scT l,⟨138,true,Rs.d { QfA e2 with tx:=n2 }⟩]⟩ (gc [0,1,2,7,4]) ⟨⟨s',l,c.rd,c.dead⟩,{ QfA e2 with tx:=n2 },_,rfl,rfl,.inr (.inl ⟨⟨⟨k1,by dsimp only; omega,Nat.le_succ_of_le hc.2.2⟩,k2⟩,rfl⟩)⟩
end
section
attribute [local go_sem] Qbb
theorem QuX (I:Lg->Prop) (c:Sc) (n:Nat) (hc:c.sm n) (t:Sp) (h1:t.kind ≠ 1) (h2:t.kind ≠ 2) (h3:t.kind ≠ 3) (h4:t.kind ≠ 4) (h5:t.kind ≠ 5) (h6:t.kind ≠ 6) (h7:t.kind ≠ 7):Qg5 I c n t:=by
  refine QK (fn:=Tryz.f70) Tryz.func70 rfl (by kernel_rfl) (by simp [Tryz.f70]) ?_
  have c1:=Qaa 1
  (unfold Tryz.f70; refine rn (And.intro @h1 (And.intro @h2 (And.intro @h3 (And.intro @h4 (And.intro @h5 (And.intro @h6 @h7)))))) ?_)
  have F:=(And.intro @h1 (And.intro @h2 (And.intro @h3 (And.intro @h4 (And.intro @h5 (And.intro @h6 @h7))))))
  refine rn F ?_
  repeat' (first
    | with_reducible exact ⟨⟩
    | refine vp F (c1) ?_)
  exact QB ⟨132,3,[(4,.ptr 3 0)],[scB c 1 2,scT (Sc.tx c),scR (Sc.rd c),⟨138,true,Rs.d (QaH 1)⟩]⟩ (gc [0,1,2,4]) ⟨c,QaH 1,_,rfl,rfl,.inl ⟨Qm4 I c n hc _,rfl⟩⟩
theorem QuY (I:Lg->Prop) (hI:∀ x y,Ev x y->I x->I y) (c:Sc) (n:Nat) (hn:n<=2000) (hc:c.sm n) (t:Sp) (h6:t.kind = 6->Qg5 I c n t):Qg5 I c n t:=by
  by_cases q1:t.kind = 1
  · exact Qu5 I hI c n hn hc t q1
  by_cases q2:t.kind = 2
  · exact Qu4 I hI c n hn hc t q2
  by_cases q3:t.kind = 3
  · exact Qu3 I hI c n hn hc t q3
  by_cases q4:t.kind = 4
  · exact Qu2 I hI c n hn hc t q4
  by_cases q5:t.kind = 5
  · exact Qu1 I hI c n hn hc t q5
  by_cases q6:t.kind = 6
  · exact h6 q6
  by_cases q7:t.kind = 7
  · exact QuZ I hI c n hn hc t q7
  exact QuX I c n hc t q1 q2 q3 q4 q5 q6 q7
def QmE:Enc Sp:=⟨9,fun t=>[.lit (.int .i64 t.kind),.lit (.int .i64 t.tx),.lit (.int .i64 t.pg),.lit (.int .i64 t.torn),.lit (.int .i64 t.cut),.lit (.int .i64 t.a.kind),.lit (.int .i64 t.a.pg),.lit (.int .i64 t.a.sl),.str t.a.data],by decide,fun _=>rfl⟩
theorem QEp (l:List Sp):(cells QmE l).length = l.length * 9:=QG QmE l
theorem QFc (l:List Sp) (n:Nat) (h:l.length * 9<=n):(cells QmE l).take n = cells QmE l:=by rw [List.take_of_length_le]; rw [QEp]; exact h
theorem QEZ {n:Nat} {hp:Qa} {len:Nat} {l:List Sp} (h:l.length = len):QgN n hp 0 9 len (some (cells QmE l)) = some (.sl (fz QmE l)):=QU QmE h
def Sp0:Sp:=⟨0,0,0,0,0,0,0,0,[]⟩
theorem QCv (l:List Sp) (i:Nat) (h:i < l.length):(fz QmE l)[i]? = some [.lit (.int .i64 (l.getD i Sp0).kind),.lit (.int .i64 (l.getD i Sp0).tx),.lit (.int .i64 (l.getD i Sp0).pg),.lit (.int .i64 (l.getD i Sp0).torn),.lit (.int .i64 (l.getD i Sp0).cut),.lit (.int .i64 (l.getD i Sp0).a.kind),.lit (.int .i64 (l.getD i Sp0).a.pg),.lit (.int .i64 (l.getD i Sp0).a.sl),.str (l.getD i Sp0).a.data]:=Qc1 QmE l Sp0 i h
attribute [go_sem] QEp QFc QEZ
def QdZ:Enc Rs:=⟨6,fun r=>[.lit (.int .i64 r.st),.lit (.int .i64 r.tx),.lit (.int .i64 r.pg),.lit (.bool r.cell.set),.str r.cell.data,.lit (.int .i64 r.er)],by decide,fun _=>rfl⟩
theorem QCn (l:List Rs):(cells QdZ l).length = l.length * 6:=QG QdZ l
theorem QEc (l:List Rs) (n:Nat) (h:l.length * 6<=n):(cells QdZ l).take n = cells QdZ l:=by rw [List.take_of_length_le]; rw [QCn]; exact h
theorem QDW {n:Nat} {hp:Qa} {len:Nat} {l:List Rs} (h:l.length = len):QgN n hp 0 6 len (some (cells QdZ l)) = some (.sl (fz QdZ l)):=QU QdZ h
theorem QCS (l:List Rs) (a b c:Int) (x:Bool) (s:List UInt8) (d:Int):cells QdZ l ++ [.pv (.lit (.int .i64 a)),.pv (.lit (.int .i64 b)),.pv (.lit (.int .i64 c)),.pv (.lit (.bool x)),.pv (.str s),.pv (.lit (.int .i64 d))] = cells QdZ (l ++ [⟨a,b,c,⟨x,s⟩,d⟩]):=by rw [Qx]; rfl
attribute [go_sem] QCn QEc QDW QCS
theorem QEE (l:List Rd):DV.wk.go (cells Qlx l) = cells Qlx l:=Qbe Qlx l fun a p hp=>by
  simp [Qlx] at hp
  rcases hp with h | h | h | h | h | h<;>subst h<;>rfl
theorem QDs (l:List Rs):DV.wk.go (cells QdZ l) = cells QdZ l:=Qbe QdZ l fun a p hp=>by
  simp [QdZ] at hp
  rcases hp with h | h | h | h | h | h<;>subst h<;>rfl
attribute [go_sem] QEE QDs
structure Ru (I:Lg->Prop) (s:Sv) (l:List Sp) where
  i:Nat
  c:Sc
  out:List Rs
  hi:i<=l.length
  h1:i<=1000
  hc:c.sm i
  ho:out.length = i
  hI:I s.k.lg->I c.s.k.lg
@[go_sem] def QEV (a:Sv × List Rs × List Rd):DV:=.tup [.agg a.1.d,.pv (.sl (fz QdZ a.2.1)),.pv (.sl (fz Qlx a.2.2))]
theorem QBI (I:Lg->Prop) (hI:∀ x y,Ev x y->I x->I y) (s:Sv) (hs:s.sm) (l:List Sp) (h6:∀ i,i < l.length->(l.getD i Sp0).kind = 6->∀ c n,n<=2000->c.sm n->Qg5 I c n (l.getD i Sp0)):VCalls prog 54 [.agg s.d,.pv (.sl (fz QmE l))] [] (QF QEV fun a=>a.1.sm/\(I s.k.lg->I a.1.k.lg)):=by
  refine dk Tryz.func54 ?_
  (unfold Tryz.f54; refine rn trivial ?_)
  refine VLoop.nilOwnC 2 18 3 1 rfl rfl ?_
  refine VLoop.nilOwnC 2 19 175 6 rfl rfl ?_
  refine VLoop.nilOwn 8 138 6 rfl ?_
  refine rn trivial ?_
  refine Qh (fun r:Ru I s l=>⟨48,0,[(9,.int .i64 r.i),(8,.own 4 6 0 r.out.length),(7,.ptr 1 0),(4,.ptr 0 0),(1,.pv (.sl (fz QmE l)))],[⟨84,true,Zv⟩,scB r.c 2 3,scT r.c.tx,scR r.c.rd,⟨138,true,cells QdZ r.out⟩]⟩) (fun r=>l.length - r.i) ⟨0,⟨s,[],[],false⟩,[],Nat.zero_le _,by decide,⟨hs,Nat.zero_le _,Nat.zero_le _⟩,rfl,id⟩ (gc [1,2,3,4,5]) ?_
  rintro ⟨i,c,out,hi,h1,hc,ho,h⟩
  dsimp only
  unfold Zv
  have hg:=fun h:i < l.length=>QCv l i h
  have hb:(out.length + 1) * 72<=140737488355328:=by omega
  obtain ⟨sv,tx,rd,dead⟩:=c
  cases dead
  rotate_left
  · skip
    have F:=@hg
    refine rn F ?_
    repeat' (first
      | with_reducible exact ⟨⟩
      | (refine sG F ?_ ?_<;>intro hZ)
      | (refine QbT (id:=7) [[],[0],[0,1],[0,1,2],[],[],[5],[5,6],[5,6,7],[0,1,2,3],[0,1,2,3,4,9],[0,1,2,3,4,5,6,7,8,9,10]] [0,1,2,3,4,5,6,7,8] [⟨[],[],9,[4,5,6,7,8],[]⟩,⟨[],[],10,[5,6,7,8],[]⟩,⟨[],[],11,[],[]⟩] (by kernel_rfl) (by kernel_rfl) (by kernel_rfl) ?_; refine rn F ?_))
    all_goals exact ⟨rfl,rfl,(sv,out,rd),rfl,hc.1,h⟩
  have F:=@hg
  refine rn F ?_
  repeat' (first
    | with_reducible exact ⟨⟩
    | (refine sG F ?_ ?_<;>intro hZ)
    | (refine QbT (id:=7) [[],[0],[0,1],[0,1,2],[],[],[5],[5,6],[5,6,7],[0,1,2,3],[0,1,2,3,4,9],[0,1,2,3,4,5,6,7,8,9,10]] [0,1,2,3,4,5,6,7,8] [⟨[],[],9,[4,5,6,7,8],[]⟩,⟨[],[],10,[5,6,7,8],[]⟩,⟨[],[],11,[],[]⟩] (by kernel_rfl) (by kernel_rfl) (by kernel_rfl) ?_; refine rn F ?_))
  all_goals first | exact ⟨rfl,rfl,(sv,out,rd),rfl,hc.1,h⟩ | skip
  have hil:i < l.length:=by omega
  refine QjM (c:=⟨sv,tx,rd,false⟩) 1 2 3 (QuY I hI _ i (by omega) hc (l.getD i Sp0) (fun hk=>h6 i hil hk _ i (by omega) hc)) rfl rfl rfl (by decide) (by decide) (by decide) rfl rfl ?_ ?_ ?_
  all_goals
    rintro c1 r1 ⟨q1,q2⟩ B
    refine rn @hb ?_
    have hl2:(out ++ [r1]).length = out.length + 1:=by simp
    refine ⟨⟨i + 1,c1,out ++ [r1],hil,by omega,q1,by rw [hl2]; omega,fun x=>q2 (h x)⟩,by dsimp only; omega,?_⟩
    dsimp only
    rw [hl2]
  · exact (gc [0,1,2,3,7])
  · exact (gc [0,1,5,3,8])
  · exact (gc [0,1,2,5,8])
end
section
attribute [local go_sem] cb cc
theorem QsA (i:Nat) (h:i < 12):∃ n:Int,([.pv (.lit (.int .i64 1)),.pv (.lit (.int .i64 1)),.pv (.lit (.int .i64 2)),.pv (.lit (.int .i64 2)),.pv (.lit (.int .i64 2)),.pv (.lit (.int .i64 3)),.pv (.lit (.int .i64 4)),.pv (.lit (.int .i64 5)),.pv (.lit (.int .i64 6)),.pv (.lit (.int .i64 7)),.pv (.lit (.int .i64 2)),.pv (.lit (.int .i64 4))]:List DV)[i]? = some (.int .i64 n):=by
  have e:([.pv (.lit (.int .i64 1)),.pv (.lit (.int .i64 1)),.pv (.lit (.int .i64 2)),.pv (.lit (.int .i64 2)),.pv (.lit (.int .i64 2)),.pv (.lit (.int .i64 3)),.pv (.lit (.int .i64 4)),.pv (.lit (.int .i64 5)),.pv (.lit (.int .i64 6)),.pv (.lit (.int .i64 7)),.pv (.lit (.int .i64 2)),.pv (.lit (.int .i64 4))]:List DV) = ([1,1,2,2,2,3,4,5,6,7,2,4]:List Int).map (DV.int .i64):=rfl
  refine ⟨([1,1,2,2,2,3,4,5,6,7,2,4]:List Int)[i]'h,?_⟩
  rw [e,List.getElem?_map,List.getElem?_eq_getElem h]; rfl
theorem Qw1 (c:C) (m:Nat) (h1:1<=m) (h2:m<=1000):VCalls prog 98 [.ptr 0 0,.int .i64 m] [cb c] (CX fun r=>∃ a:Ac,r = .agg a.d):=by
  refine dd Tryz.func98 ?_
  (unfold Tryz.f98; refine rn trivial ?_)
  refine QO (k:=0) (c:=c) (QW c 12 (by omega) (by omega)) rfl rfl ?_
  rintro _ c1 ⟨y,rfl,hy⟩
  obtain ⟨n,hn⟩:=QsA y hy
  have F:=@hn
  refine rn F ?_
  repeat' (first
    | with_reducible exact ⟨⟩
    | (refine sB F ?_ ?_<;>intro hZ)
    | (refine QO (k:=0) (QW _ 2 (by omega) (by omega)) rfl rfl ?_; rintro _ _ ⟨_,rfl,_⟩; refine rn F ?_)
    | (refine QO (k:=0) (QW _ 40 (by omega) (by omega)) rfl rfl ?_; rintro _ _ ⟨_,rfl,_⟩; refine rn F ?_)
    | (refine QO (k:=0) (QW _ m (by omega) (by omega)) rfl rfl ?_; rintro _ _ ⟨_,rfl,_⟩; refine rn F ?_)
    | (refine QO (k:=0) (Qtt _) rfl rfl ?_; rintro _ _ ⟨_,rfl,_⟩; refine rn F ?_)
    | (refine QO (k:=0) (QsH _) rfl rfl ?_; rintro _ _ ⟨_,rfl,_⟩; refine rn F ?_))
  all_goals first
    | exact ⟨_,rfl,rfl,QaE _,rfl,⟨⟨_,_,_,_⟩,rfl⟩,_,rfl⟩
    | skip
end
section
attribute [local go_sem] cb cc
theorem QBU (n:Int) (h:1<=n/\n<=64):VCalls prog 69 [.int .i64 n] [] (QF dvD fun a=>dvQ a/\a.2 = 0):=by
  refine dk Tryz.func69 ?_
  have c1:=QrW n
  (unfold Tryz.f69; refine rn trivial ?_)
  refine rn F ?_
  repeat' (first
    | with_reducible exact ⟨⟩
    | (refine Qk (c1 (by omega)) rfl ?_; rintro l hl; refine rn F ?_))
  all_goals first
    | (exfalso; omega)
    | exact ⟨rfl,rfl,(⟨l,0,false⟩,0),rfl,hl,rfl⟩
    | skip
theorem QBN (n m:Int) (h:1<=n/\n<=64) (h2:1<=m/\m<=64):VCalls prog 68 [.int .i64 n,.int .i64 m] [] (QF kiD fun a=>a.1.sm/\a.2 = 0/\a.1.lg = Lg1):=by
  refine dk Tryz.func68 ?_
  have c1:=Qrn m
  have c2:=Qnc n
  have c3:=Qy4
  have hf:=Qnp m
  generalize Qmf m = p at *
  (unfold Tryz.f68; refine rn trivial ?_)
  refine rn F ?_
  repeat' (first
    | with_reducible exact ⟨⟩
    | refine vp F (c1) ?_
    | (refine Qk (c2) rfl ?_; rintro ⟨l,e⟩ hl; refine rn F ?_)
    | refine vp F (c3) ?_
    | (refine Qd (id:=5) [0,2,3] [⟨[],[],1,[0,2,3],[4]⟩,⟨[],[],5,[],[]⟩,⟨[],[],6,[],[]⟩] (by kernel_rfl) (by kernel_rfl) ?_; refine rn F ?_))
  all_goals first
    | (exfalso; omega)
    | exact ⟨rfl,rfl,(⟨n,1,Lg1,p.1,Lk0,[],l,[]⟩,0),rfl,⟨Nat.zero_le _,by dsimp only; rw [hf]; exact Nat.zero_le _,Nat.zero_le _,QM _,hl,Nat.zero_le _⟩,rfl,rfl⟩
    | skip
theorem QBG (n m:Int) (h:1<=n/\n<=64) (h2:1<=m/\m<=64):VCalls prog 53 [.int .i64 n,.int .i64 m] [] (QF svD fun a=>a.1.sm/\a.2 = 0/\a.1.k.lg = Lg1):=by
  refine dk Tryz.func53 ?_
  have c1:=QBN n m h h2
  have c2:=QBU n h
  (unfold Tryz.f53; refine rn trivial ?_)
  refine Qk c1 rfl ?_
  rintro ⟨k,e⟩ ⟨hk,he,hg⟩
  dsimp only at hk he hg
  subst he
  refine rn trivial ?_
  refine Qk c2 rfl ?_
  rintro ⟨v,e⟩ ⟨hv,he⟩
  dsimp only at he
  subst he
  refine rn trivial ?_
  exact ⟨rfl,rfl,(⟨k,v⟩,0),rfl,⟨hk,hv⟩,rfl,hg⟩
theorem QD7 (l:List Sp) (a b c d e f g h:Int) (s:List UInt8):cells QmE l ++ [.pv (.lit (.int .i64 a)),.pv (.lit (.int .i64 b)),.pv (.lit (.int .i64 c)),.pv (.lit (.int .i64 d)),.pv (.lit (.int .i64 e)),.pv (.lit (.int .i64 f)),.pv (.lit (.int .i64 g)),.pv (.lit (.int .i64 h)),.pv (.str s)] = cells QmE (l ++ [⟨a,b,c,d,e,⟨f,g,h,s⟩⟩]):=by rw [Qx]; rfl
def no6 (l:List Sp):Prop:=∀ i,i < l.length->(l.getD i Sp0).kind ≠ 6
structure Sd (most:Nat) where
  k:Nat
  c:C
  l:List Sp
  hk:k + l.length<=most + 2
  h6:no6 l
def spB:Sp:=⟨1,0,0,0,0,⟨0,0,0,[]⟩⟩
def LgI (x:Lg):Prop:=lgB x = true/\x.f = 1
end
theorem Qrv (t:Lk) (h:1024 < t.sum) (h2:t.held.length<=10000000/\t.wait.length<=10000000):VCalls prog 177 [.agg t.d] [] (Ret (.bool false)):=by
  refine dd Tryz.func177 ?_
  unfold Lk.sum at h
  have h':(1024:Int) < t.held.length + t.wait.length:=by omega
  (unfold Tryz.f177; refine rn @h' ?_; try with_reducible exact ⟨⟩)
def Kn.smX (k:Kn):Prop:=k.lg.es.length<=4096/\k.pl.fs.length<=64/\smN 65 k.tx/\k.ix.length<=64/\k.la.length<=10000
theorem Qy0 (k:Kn) (hk:k.smX) (h:1024 < k.lk.sum) (hq:k.lk.held.length<=10000000/\k.lk.wait.length<=10000000):VCalls prog 133 [.agg k.d] [] (Ret (.bool false)):=by
  refine dd Tryz.func133 ?_
  obtain ⟨h1,h2,h4,h5,h6⟩:=hk
  have c1:=Qad k.lg (by omega)
  have c2:=Qam k.pl (by omega)
  have c3:=Qrv k.lk h hq
  generalize lgB k.lg = b1 at *
  generalize plB k.pl = b2 at *
  (unfold Tryz.f133; refine rn trivial ?_)
  refine rn F ?_
  repeat' (first
    | with_reducible exact ⟨⟩
    | (refine sG F ?_ ?_<;>intro hZ)
    | refine vp F (c1) ?_
    | refine vp F (c2) ?_
    | refine vp F (c3) ?_)
  all_goals first | rfl | skip
theorem Qvj (k:Kn) (hk:k.smX) (h:1024 < k.lk.sum) (hq:k.lk.held.length<=10000000/\k.lk.wait.length<=10000000):VCalls prog 111 [.agg k.d] [] (Ret (.bool false)):=by
  refine dd Tryz.func111 ?_
  have c1:=Qy0 k hk h hq
  (unfold Tryz.f111; refine rn trivial ?_)
  refine rn F ?_
  repeat' (first
    | with_reducible exact ⟨⟩
    | refine vp F (c1) ?_)
  all_goals first | rfl | skip
structure AdS (x:Lg) (n:Nat) where
  i:Nat
  k:Kn
  hi:i<=n
  hk:k.sm
  he:Ev x k.lg
theorem QvD (x:Lg) (hx:x.es.length<=4096) (a:An) (ha:a.sm 10000) (n:Int):VCalls prog 176 [.agg x.c,.agg a.d,.int .i64 n] [] (QF kiD fun r=>r.1.sm/\(r.2 = 0->Ev x r.1.lg)):=by
  refine dk Tryz.func176 ?_
  obtain ⟨h1,h2,h3,h4⟩:=ha
  have c1:=Qrn n
  have hf:=Qnp n
  generalize Qmf n = p at *
  obtain ⟨p,e0⟩:=p
  dsimp only at c1 hf
  have err:∀ z,z ≠ 0->QF kiD (fun r=>r.1.sm/\(r.2 = 0->Ev x r.1.lg)) (kiD (Kn0,z)) []:=fun z hz=>⟨rfl,rfl,(Kn0,z),rfl,QbR,fun h=>absurd h hz⟩
  (unfold Tryz.f176; refine rn trivial ?_)
  refine rn F ?_
  repeat' (first
    | with_reducible exact ⟨⟩
    | (refine sB F ?_ ?_<;>intro hZ)
    | refine vp F (c1) ?_)
  all_goals first | exact err 1 (by decide) | skip
  by_cases hs:a.lk.length<=1024
  rotate_left
  · have c2:=Qvj ⟨a.pg,a.nx,x,p,⟨a.lk,[]⟩,a.lo,a.ix,a.la⟩ ⟨hx,by dsimp only; rw [hf]; exact Nat.zero_le _,h1,h4,h3⟩ (by unfold Lk.sum; simp; omega) ⟨by dsimp only; omega,Nat.zero_le _⟩
    refine rn F ?_
    refine VCalls.wkH ?_; simp only [QfU,Qex,Qd3,Qda,DV.wk,PV.wk,QDu]
    refine rn F ?_
    repeat' (first
      | with_reducible exact ⟨⟩
      | refine vp F (c2) ?_)
    exact err 15 (by decide)
  have hk0:(⟨a.pg,a.nx,x,p,⟨a.lk,[]⟩,a.lo,a.ix,a.la⟩:Kn).sm:=⟨hx,by dsimp only; rw [hf]; exact Nat.zero_le _,by unfold Lk.sum; simp; omega,h1,h4,h3⟩
  have c2:=QQ ⟨a.pg,a.nx,x,p,⟨a.lk,[]⟩,a.lo,a.ix,a.la⟩ hk0
  refine rn F ?_
  refine VCalls.wkH ?_; simp only [QfU,Qex,Qd3,Qda,DV.wk,PV.wk,QDu]
  refine rn F ?_
  repeat' (first
    | with_reducible exact ⟨⟩
    | (refine sB F ?_ ?_<;>intro hZ)
    | (refine Qk (c2) rfl ?_; rintro b hb; refine rn F ?_))
  all_goals first | exact err 15 (by decide) | skip
  have hlo:=h1.1
  refine Qh (fun s:AdS x a.lo.length=>⟨72,0,[(11,.int .i64 s.i),(10,.ptr 4 0),(6,.ptr 2 0),(4,.ptr 1 0)],[⟨25,true,x.c⟩,⟨267,true,a.d⟩,⟨41,true,Kn.d Kn0⟩,⟨31,true,p.d⟩,⟨41,true,s.k.d⟩]⟩) (fun s=>a.lo.length - s.i) ⟨0,_,Nat.zero_le _,hk0,Ev.refl _⟩ (gc [0,1,2,3,4]) ?_
  rintro ⟨i,k,hi,hk,he⟩
  dsimp only
  by_cases hil:i < a.lo.length
  rotate_left
  · skip
    refine rn F ?_
    exact ⟨rfl,rfl,(k,0),rfl,hk,fun _=>he⟩
  have hg:=QdV a.lo i hil
  generalize a.lo.getD i Tx0 = t at *
  have c3:=QdP k hk ⟨0,4,t.id,0,0,0,Ch0,[]⟩
  have F:=@hg
  refine rn F ?_
  repeat' (first
    | with_reducible exact ⟨⟩
    | (refine sB F ?_ ?_<;>intro hZ)
    | (refine Qk (c3) rfl ?_; rintro ⟨k1,n1,e1⟩ hq; refine rn F ?_)
    | (refine Qd (id:=11) [0,1,2,3,4,5,6,7] [⟨[],[],8,[1,2,3,4,5,6],[9,10,11,12]⟩,⟨[],[],13,[11,12],[]⟩,⟨[],[],14,[],[]⟩] (by kernel_rfl) (by kernel_rfl) ?_; refine rn F ?_))
  all_goals first
    | exact err _ (by assumption)
    | exact ⟨⟨i + 1,k,hil,hk,he⟩,by dsimp only; omega,(gc [0,1,2,3,4])⟩
    | exact ⟨⟨i + 1,k1,hil,hq.1,he.trans (Qd1 hq (by assumption)).1⟩,by dsimp only; omega,(gc [0,1,2,3,4])⟩
    | skip
def unf (s:List UInt8) (a:Int):List UInt8 × Int × Int:=
  if a < 0\/(s.length:Int) < a then ([],0,1)
  else if ¬ a.toNat + 4<=s.length then ([],0,5)
  else if 8392 < n4 s a.toNat then ([],0,2)
  else if ¬ a.toNat + 4 + n4 s a.toNat + 4<=s.length then ([],0,5)
  else if ¬ (n4 s (a.toNat + 4 + n4 s a.toNat):Int) = QlX ((s.take (a.toNat + 4 + n4 s a.toNat)).drop a.toNat) then ([],0,3)
  else ((s.take (a.toNat + 4 + n4 s a.toNat)).drop (a.toNat + 4),(a.toNat + 4 + n4 s a.toNat + 4:Nat),0)
theorem Qxa (s:List UInt8) (a:Int):(unf s a).1.length<=s.length/\((unf s a).2.2 = 0->0<=a/\0<=(unf s a).2.1/\(unf s a).2.1<=s.length):=by
  unfold unf
  split
  · exact ⟨Nat.zero_le _,fun h=>by simp at h⟩
  rename_i h1
  split
  · exact ⟨Nat.zero_le _,fun h=>by simp at h⟩
  split
  · exact ⟨Nat.zero_le _,fun h=>by simp at h⟩
  split
  · exact ⟨Nat.zero_le _,fun h=>by simp at h⟩
  rename_i h2
  split
  · exact ⟨Nat.zero_le _,fun h=>by simp at h⟩
  · refine ⟨by dsimp only; rw [List.length_drop,List.length_take]; omega,fun _=>⟨by omega,by dsimp only; omega,by dsimp only; omega⟩⟩
def QDb (s:List UInt8) (a:Int):DV:=.tup [.pv (.str (unf s a).1),.int .i64 (unf s a).2.1,.int .i64 (unf s a).2.2]
theorem QhO (s:List UInt8) (hs:s.length<=100000000) (a:Int):VCalls prog 216 [.pv (.str s),.int .i64 a] [] (Ret (QDb s a)):=by
  refine dd Tryz.func216 ?_
  unfold QDb unf
  by_cases h1:a < 0
  · rw [if_pos (.inl h1)]
    (unfold Tryz.f216; refine rn @h1 ?_; try with_reducible exact ⟨⟩)
  · by_cases h2:(s.length:Int) < a
    · rw [if_pos (.inr h2)]
      (unfold Tryz.f216; refine rn (And.intro @h1 @h2) ?_; try with_reducible exact ⟨⟩)
    · rw [if_neg (by omega)]
      obtain ⟨k,rfl⟩:∃ k:Nat,a = k:=⟨a.toNat,by omega⟩
      rw [Int.toNat_natCast]
      by_cases h3:k + 4<=s.length
      · rw [if_neg (by omega)]
        have hn:=Qzw s k
        (unfold Tryz.f216; refine rn (And.intro @h1 @h2) ?_)
        refine Qas (QBR s (by omega) k h3) rfl ?_
        by_cases h4:8392 < n4 s k
        · rw [if_pos h4]
          have h4':8392 < (n4 s k:Int):=by omega
          (refine rn @h4' ?_; try with_reducible exact ⟨⟩)
        · rw [if_neg h4]
          have h4':¬ 8392 < (n4 s k:Int):=by omega
          have hw:IntKind.u32.wrap (n4 s (k + 4 + n4 s k):Int) = (n4 s (k + 4 + n4 s k):Int):=by
            have:=Qzw s (k + 4 + n4 s k)
            simp [IntKind.wrap,IntKind.signed,IntKind.bits]; omega
          by_cases h5:k + 4 + n4 s k + 4<=s.length
          · rw [if_neg (by omega)]
            have hg:=QBR s (by omega) (k + 4 + n4 s k) h5
            have e:(((k + 4 + n4 s k:Nat)):Int) = (k:Int) + 4 + (n4 s k:Int):=by omega
            rw [e] at hg
            have h5':¬ (s.length:Int) - (k:Int) < (n4 s k:Int) + 8:=by omega
            refine rn (And.intro @h4' @h5') ?_
            refine Qas hg rfl ?_
            have ht:((k:Int) + 4 + (n4 s k:Int)).toNat = k + 4 + n4 s k:=by omega
            have q1:(0:Int)<=(k:Int) + 4 + (n4 s k:Int):=by omega
            have q2:k<=k + 4 + n4 s k:=by omega
            have q3:k + 4 + n4 s k<=s.length:=by omega
            have hx:=QlW ((s.take (k + 4 + n4 s k)).drop k)
            refine rn (And.intro @ht (And.intro @q1 (And.intro @q2 (And.intro @q3 @hw)))) ?_
            refine Qas (Qm6 _ (by rw [List.length_drop,List.length_take]; omega)) rfl ?_
            by_cases h6:(n4 s (k + 4 + n4 s k):Int) = QlX ((s.take (k + 4 + n4 s k)).drop k)
            · rw [if_neg (by omega)]
              have q4:((k:Int) + 4).toNat = k + 4:=by omega
              have q5:k + 4<=k + 4 + n4 s k:=by omega
              have q6:(0:Int)<=(k:Int) + 4:=by omega
              have e8:(((k + 4 + n4 s k + 4:Nat)):Int) = (k:Int) + 8 + (n4 s k:Int):=by omega
              refine rn (And.intro @h6 (And.intro @ht (And.intro @q1 (And.intro @q2 (And.intro @q3 (And.intro @q4 (And.intro @q5 @q6))))))) ?_
              rw [e8]
            · rw [if_pos h6]
              (refine rn @h6 ?_; try with_reducible exact ⟨⟩)
          · rw [if_pos (by omega)]
            have h5':(s.length:Int) - (k:Int) < (n4 s k:Int) + 8:=by omega
            (refine rn (And.intro @h4' @h5') ?_; try with_reducible exact ⟨⟩)
      · rw [if_pos h3]
        (unfold Tryz.f216; refine rn (And.intro @h1 @h2) ?_)
        refine Qas (Qdm s k 4 (by omega) (by omega) (by omega)) rfl ?_
        (refine rn trivial ?_; try with_reducible exact ⟨⟩)
section
structure RS (s:List UInt8) where
  at_:Int
  e:Int
  h:0<=at_/\at_<=s.length
def Qmq (s:List UInt8) (a k:Nat):Int:=IntKind.i64.wrap (Qly s a k)
def QcE (s:List UInt8) (r:RS s) (k:Nat):Int × RS s:=
  if r.e = 0 then if h:r.at_ + k<=s.length then (Qmq s r.at_.toNat k,⟨r.at_ + k,0,by have:=r.h; omega⟩) else (0,⟨r.at_,5,r.h⟩) else (0,r)
def QeS (s:List UInt8) (r:RS s) (n:Int):List UInt8 × RS s:=
  if r.e = 0 then if h:0<=n/\r.at_ + n<=s.length then ((s.take (r.at_ + n).toNat).drop r.at_.toNat,⟨r.at_ + n,0,by have:=r.h; omega⟩) else ([],⟨r.at_,5,r.h⟩) else ([],r)
def Qhz (s:List UInt8) (p:Int × RS s):Ce × RS s :=
  if p.2.e = 0/\¬ p.1 = 255 then
    if 12 < p.1 then (Ce0,⟨p.2.at_,4,p.2.h⟩) else (⟨true,(QeS s p.2 p.1).1⟩,(QeS s p.2 p.1).2)
  else (Ce0,p.2)
def Qfa (s:List UInt8) (r:RS s):Ce × RS s:=Qhz s (QcE s r 1)
theorem Qmp (s:List UInt8) (a k:Nat) (h:k<=7):0<=Qmq s a k/\Qmq s a k < 2 ^ (8 * k):=by
  have h1:=QeG s a k (by omega)
  have h2:=QkO s a k
  have h3:(2:Nat) ^ (8 * k)<=2 ^ 56:=Nat.pow_le_pow_right (by omega) (by omega)
  have h4:((2:Int) ^ (8 * k)) = ((2 ^ (8 * k):Nat):Int):=by rw [Int.natCast_pow]; rfl
  unfold Qmq
  rw [h1,IntKind.wrap_i64,h4]
  omega
theorem Qsk (s:List UInt8) (r:RS s) (k:Nat) (h:k<=7):0<=(QcE s r k).1:=by
  unfold QcE
  split
  · split
    · exact (Qmp s _ k h).1
    · exact Int.le_refl _
  · exact Int.le_refl _
abbrev RC (B:Blk) (d:DV):DV->Qa->Prop:=fun r h'=>∃ B',h' = [B']/\B'.live = true/\DV.nums.go (fun _=>false) B'.cells = true/\r.nums (fun _=>false) = true/\(r = d/\B' = B)
def rdB (T:TypeId) (s:List UInt8) (r:RS s):Blk:=⟨T,true,[.pv (.str s),.int .i64 r.at_,.int .i64 r.e]⟩
attribute [go_sem] rdB
attribute [local go_sem] Ce.d
theorem Qd7 {g:FuncId} {args:List DV} {hp:Qa} {k:Nat} {T:TypeId} {s:List UInt8} {r0 r1:RS s} {d:DV} {K:DV->Qa->Prop} (h:VCalls prog g (args.map (DV.ren fun _=>0)) [rdB T s r0] (RC (rdB T s r1) d)) (hk:hp[k]? = some (rdB T s r0))
    (ha:DV.nums.go (fun i=>i == k) args = true) (hK:K d (hp.set k (rdB T s r1))):VCalls prog g args hp K:=
  (VCalls.ptr1 (R:=fun r B'=>r = d/\B' = rdB T s r1) hk rfl rfl h ha).mono fun r h' ⟨B',e1,_,_,e2,e3⟩=>by subst e1 e2 e3; exact hK
theorem QbZ (s:List UInt8) (hs:s.length<=100000000) (r:RS s) (k:Nat) (hk:1<=k/\k<=8):VCalls prog 247 [.ptr 0 0,.int .i64 k] [rdB 340 s r] (RC (rdB 340 s (QcE s r k).2) (.int .i64 (QcE s r k).1)):=by
  refine dd Tryz.func247 ?_
  obtain ⟨a,e,ha⟩:=r
  obtain ⟨n,rfl⟩:∃ n:Nat,a = n:=⟨a.toNat,by omega⟩
  unfold QcE
  dsimp only
  by_cases he:e = 0
  · subst he
    rw [if_pos rfl]
    by_cases h:(n:Int) + k<=s.length
    · rw [dif_pos h]
      have hg:=QhR s (by omega) n k hk (by omega)
      (unfold Tryz.f247; refine rn trivial ?_)
      refine Qd (id:=3) [0,1,2,3,4,5,6,7,8] [⟨[],[],9,[0,1,2,4,5,6],[10,11,12]⟩,⟨[],[],13,[12],[]⟩,⟨[],[],14,[],[]⟩] (by kernel_rfl) (by kernel_rfl) ?_
      refine rn trivial ?_
      refine Qas hg rfl ?_
      refine rn trivial ?_
      exact ⟨_,rfl,rfl,rfl,rfl,rfl,rfl⟩
    · rw [dif_neg h]
      have hg:=Qdm s n k (by omega) (by omega) h
      (unfold Tryz.f247; refine rn trivial ?_)
      refine Qd (id:=3) [0,1,2,3,4,5,6,7,8] [⟨[],[],9,[0,1,2,4,5,6],[10,11,12]⟩,⟨[],[],13,[12],[]⟩,⟨[],[],14,[],[]⟩] (by kernel_rfl) (by kernel_rfl) ?_
      refine rn trivial ?_
      refine Qas hg rfl ?_
      refine rn trivial ?_
      exact ⟨_,rfl,rfl,rfl,rfl,rfl,rfl⟩
  · rw [if_neg he]
    (unfold Tryz.f247; refine rn @he ?_)
    exact ⟨_,rfl,rfl,rfl,rfl,rfl,rfl⟩
theorem QnC (s:List UInt8) (hs:s.length<=100000000) (r:RS s) (n:Int) (hn:0<=n/\n<=4294967296):VCalls prog 249 [.ptr 0 0,.int .i64 n] [rdB 340 s r] (RC (rdB 340 s (QeS s r n).2) (.pv (.str (QeS s r n).1))):=by
  refine dd Tryz.func249 ?_
  obtain ⟨a,e,ha⟩:=r
  obtain ⟨n,rfl⟩:∃ m:Nat,n = m:=⟨n.toNat,by omega⟩
  obtain ⟨a,rfl⟩:∃ m:Nat,a = m:=⟨a.toNat,by omega⟩
  unfold QeS
  dsimp only
  by_cases he:e = 0
  · subst he
    rw [if_pos rfl]
    by_cases h:0<=(n:Int)/\(a:Int) + n<=s.length
    · rw [dif_pos h]
      have q1:¬ (s.length:Int) - a < n:=by omega
      have q2:¬ (s.length:Int) - a < n:=by omega
      have q3:¬ (s.length:Int) - (a:Int) < (n:Int):=by omega
      have q4:((a:Int) + n).toNat = a + n:=by omega
      have q5:(a:Int) + n - n = a:=by omega
      have q6:a<=a + n:=by omega
      have q7:a + n<=s.length:=by omega
      have q8:0<=(a:Int) + n:=by omega
      have q9:(a:Int).toNat = a:=by omega
      have q10:¬ (n:Int) > (s.length:Int) - a:=by omega
      (unfold Tryz.f249; refine rn @q3 ?_)
      refine QdJ (by kernel_rfl) (by kernel_rfl) ?_
      refine rn (And.intro @q3 @q10) ?_
      refine QdJ (by kernel_rfl) (by kernel_rfl) ?_
      refine rn (And.intro @q4 (And.intro @q5 (And.intro @q6 (And.intro @q7 @q8)))) ?_
      exact ⟨_,rfl,rfl,rfl,rfl,rfl,rfl⟩
    · rw [dif_neg h]
      have q3:(s.length:Int) - (a:Int) < (n:Int):=by omega
      (unfold Tryz.f249; refine rn @q3 ?_)
      refine QdJ (by kernel_rfl) (by kernel_rfl) ?_
      refine rn @q3 ?_
      exact ⟨_,rfl,rfl,rfl,rfl,rfl,rfl⟩
  · rw [if_neg he]
    (unfold Tryz.f249; refine rn @he ?_)
    exact ⟨_,rfl,rfl,rfl,rfl,rfl,rfl⟩
theorem QkQ (s:List UInt8) (hs:s.length<=100000000) (r:RS s):VCalls prog 248 [.ptr 0 0] [rdB 340 s r] (RC (rdB 340 s (Qfa s r).2) (.agg (Qfa s r).1.d)):=by
  refine dd Tryz.func248 ?_
  have hn:=QbZ s hs r 1 (by omega)
  have h0:=Qsk s r 1 (by omega)
  have h1:(QcE s r 1).1<=255:=by
    unfold QcE
    split
    · split
      · have:=(Qmp s r.at_.toNat 1 (by omega)).2; dsimp only; omega
      · simp
    · simp
  unfold Qfa
  generalize QcE s r 1 = p at hn h0 h1 |-
  obtain ⟨n,r1⟩:=p
  unfold Qhz
  dsimp only at hn h0 h1 |-
  (unfold Tryz.f248; refine rn trivial ?_)
  refine Qd7 (k:=0) hn rfl rfl ?_
  by_cases he:r1.e = 0
  · by_cases h2:n = 255
    · subst h2
      rw [if_neg (by simp)]
      refine rn @he ?_
      exact ⟨_,rfl,rfl,rfl,rfl,rfl,by rw [<- he]⟩
    · rw [if_pos ⟨he,h2⟩]
      by_cases h3:12 < n
      · rw [if_pos h3]
        refine rn (And.intro @he (And.intro @h2 @h3)) ?_
        exact ⟨_,rfl,rfl,rfl,rfl,rfl,rfl⟩
      · rw [if_neg h3]
        have ht:=QnC s hs r1 n (by omega)
        refine rn (And.intro @he (And.intro @h2 @h3)) ?_
        have e9:(⟨340,true,[.pv (.str s),.int .i64 r1.at_,.int .i64 0]⟩:Blk) = rdB 340 s r1:=by rw [rdB,he]
        rw [e9]
        refine Qd7 (k:=0) ht rfl rfl ?_
        refine rn trivial ?_
        exact ⟨_,rfl,rfl,rfl,rfl,rfl,rfl⟩
  · rw [if_neg (fun h=>he h.1)]
    refine rn @he ?_
    exact ⟨_,rfl,rfl,rfl,rfl,rfl,rfl⟩
end
section
attribute [local go_sem] Ce.d
def rs0 (s:List UInt8):RS s:=⟨0,0,by omega⟩
theorem QvU (s:List UInt8) (r:RS s):(QcE s r 4).1<=4294967296:=by
  unfold QcE
  split
  · split
    · have:=(Qmp s r.at_.toNat 4 (by omega)).2; dsimp only; omega
    · simp
  · simp
def Qtq (s:List UInt8):E × RS s:=
  let p1:=QcE s (rs0 s) 8
  let p2:=QcE s p1.2 1
  let p3:=QcE s p2.2 4
  let p4:=QcE s p3.2 8
  let p5:=QcE s p4.2 8
  let p6:=QcE s p5.2 8
  let p7:=QcE s p6.2 4
  let p8:=QcE s p7.2 1
  let c1:=Qfa s p8.2
  let c2:=Qfa s c1.2
  let p9:=QcE s c2.2 4
  let t:=QeS s p9.2 p9.1
  (⟨p1.1,p2.1,p3.1,p4.1,p5.1,p6.1,⟨p7.1,p8.1,c1.1,c2.1⟩,t.1⟩,t.2)
def QpS (s:List UInt8):E × Int:=
  if (Qtq s).2.e = 0 then if (Qtq s).2.at_ = s.length then if (Qtq s).1.okB = true then ((Qtq s).1,0) else (E0,12) else (E0,4) else (E0,(Qtq s).2.e)
theorem QoV (s:List UInt8) (hs:s.length<=100000000):VCalls prog 218 [.pv (.str s)] [] (Ret (.tup [.agg (QpS s).1.d,.int .i64 (QpS s).2])):=by
  have hp1:=QbZ s hs (rs0 s) 8 (by omega)
  generalize hqp1:QcE s (rs0 s) 8 = p1 at hp1
  have hp2:=QbZ s hs p1.2 1 (by omega)
  generalize hqp2:QcE s p1.2 1 = p2 at hp2
  have hp3:=QbZ s hs p2.2 4 (by omega)
  generalize hqp3:QcE s p2.2 4 = p3 at hp3
  have hp4:=QbZ s hs p3.2 8 (by omega)
  generalize hqp4:QcE s p3.2 8 = p4 at hp4
  have hp5:=QbZ s hs p4.2 8 (by omega)
  generalize hqp5:QcE s p4.2 8 = p5 at hp5
  have hp6:=QbZ s hs p5.2 8 (by omega)
  generalize hqp6:QcE s p5.2 8 = p6 at hp6
  have hp7:=QbZ s hs p6.2 4 (by omega)
  generalize hqp7:QcE s p6.2 4 = p7 at hp7
  have hp8:=QbZ s hs p7.2 1 (by omega)
  generalize hqp8:QcE s p7.2 1 = p8 at hp8
  have hc1:=QkQ s hs p8.2
  generalize hqc1:Qfa s p8.2  = c1 at hc1
  have hc2:=QkQ s hs c1.2
  generalize hqc2:Qfa s c1.2  = c2 at hc2
  have hp9:=QbZ s hs c2.2 4 (by omega)
  generalize hqp9:QcE s c2.2 4 = p9 at hp9
  have ht:=QnC s hs p9.2 p9.1 ⟨by rw [<- hqp9]; exact Qsk s _ 4 (by omega),by rw [<- hqp9]; exact QvU s _⟩
  generalize hqt:QeS s p9.2 p9.1 = t at ht
  have hd:Qtq s = (⟨p1.1,p2.1,p3.1,p4.1,p5.1,p6.1,⟨p7.1,p8.1,c1.1,c2.1⟩,t.1⟩,t.2):=by
    unfold Qtq
    simp only [hqp1,hqp2,hqp3,hqp4,hqp5,hqp6,hqp7,hqp8,hqc1,hqc2,hqp9,hqt]
  have hv:=Qcq ⟨p1.1,p2.1,p3.1,p4.1,p5.1,p6.1,⟨p7.1,p8.1,c1.1,c2.1⟩,t.1⟩
  unfold QpS
  rw [hd]
  clear hqt hqp9 hqc2 hqc1 hqp8 hqp7 hqp6 hqp5 hqp4 hqp3 hqp2 hqp1 hd
  obtain ⟨n1,r1⟩:=p1
  obtain ⟨n2,r2⟩:=p2
  obtain ⟨n3,r3⟩:=p3
  obtain ⟨n4,r4⟩:=p4
  obtain ⟨n5,r5⟩:=p5
  obtain ⟨n6,r6⟩:=p6
  obtain ⟨n7,r7⟩:=p7
  obtain ⟨n8,r8⟩:=p8
  obtain ⟨x1,r9⟩:=c1
  obtain ⟨x2,r10⟩:=c2
  obtain ⟨n9,r11⟩:=p9
  obtain ⟨tt,r12⟩:=t
  dsimp only at *
  refine dd Tryz.func218 ?_
  (unfold Tryz.f218; refine rn trivial ?_)
  have e0:(⟨340,true,[.pv (.str s),.int .i64 0,.int .i64 0]⟩:Blk) = rdB 340 s (rs0 s):=rfl
  rw [e0]
  refine Qd7 (k:=1) hp1 rfl rfl ?_
  refine rn trivial ?_
  refine Qd7 (k:=1) hp2 rfl rfl ?_
  refine rn trivial ?_
  refine Qd7 (k:=1) hp3 rfl rfl ?_
  refine rn trivial ?_
  refine Qd7 (k:=1) hp4 rfl rfl ?_
  refine rn trivial ?_
  refine Qd7 (k:=1) hp5 rfl rfl ?_
  refine rn trivial ?_
  refine Qd7 (k:=1) hp6 rfl rfl ?_
  refine rn trivial ?_
  refine Qd7 (k:=1) hp7 rfl rfl ?_
  refine rn trivial ?_
  refine Qd7 (k:=1) hp8 rfl rfl ?_
  refine rn trivial ?_
  refine Qd7 (k:=1) hc1 rfl rfl ?_
  refine rn trivial ?_
  refine Qd7 (k:=1) hc2 rfl rfl ?_
  refine rn trivial ?_
  refine Qd7 (k:=1) hp9 rfl rfl ?_
  refine rn trivial ?_
  refine Qd7 (k:=1) ht rfl rfl ?_
  refine rn trivial ?_
  by_cases he:r12.e = 0
  · rw [if_pos he]
    by_cases ha:r12.at_ = s.length
    · rw [if_pos ha]
      refine rn (And.intro @he @ha) ?_
      by_cases hb:E.okB ⟨n1,n2,n3,n4,n5,n6,⟨n7,n8,x1,x2⟩,tt⟩ = true
      · rw [if_pos hb]
        rw [hb] at hv
        refine Qas hv rfl ?_
        refine rn trivial ?_
        first | exact True.intro | rfl
      · rw [if_neg hb]
        have hb:E.okB ⟨n1,n2,n3,n4,n5,n6,⟨n7,n8,x1,x2⟩,tt⟩ = false:=by simpa using hb
        rw [hb] at hv
        refine Qas hv rfl ?_
        refine rn trivial ?_
        rfl
    · rw [if_neg ha]
      refine rn (And.intro @he @ha) ?_
      rfl
  · rw [if_neg he]
    refine rn @he ?_
    refine QdJ (by kernel_rfl) (by kernel_rfl) ?_
    refine rn trivial ?_
    rfl
end
def Qgj (s:List UInt8) (a l:Int):Option (E × Int):=if (unf s a).2.2 = 0/\(QpS (unf s a).1).2 = 0/\(QpS (unf s a).1).1.lsn = l then some ((QpS (unf s a).1).1,(unf s a).2.1) else none
def opn (s:List UInt8):Nat->Int->Int->List E
  | 0,_,_=>[]
  | n + 1,a,l=>match Qgj s a l with
    | some (x,b)=>x :: opn s n b (l + 1)
    | none=>[]
def QA5 (s:List UInt8):List E:=opn s 4096 (unf s 0).2.1 (Qmq (unf s 0).1 4 8)
def hdO (s:List UInt8):Prop:=(unf s 0).2.2 = 0/\(unf s 0).1.length = 12/\(unf s 0).1.take 4 = [80,77,76,71]/\1<=Qmq (unf s 0).1 4 8/\Qmq (unf s 0).1 4 8<=1099511627776
instance (s:List UInt8):Decidable (hdO s):=by unfold hdO; infer_instance
def QbW (s:List UInt8):Lg × Int:=if hdO s then (⟨Qmq (unf s 0).1 4 8,QA5 s,Qmq (unf s 0).1 4 8 + (QA5 s).length - 1⟩,0) else (Lg0,4)
theorem Qsg (s:List UInt8):∀ n a l,(opn s n a l).length<=n
  | 0,_,_=>Nat.le_refl _
  | n + 1,a,l=>by
    unfold opn
    split
    · rw [List.length_cons]; have:=Qsg s n; exact Nat.succ_le_succ (this _ _)
    · exact Nat.zero_le _
theorem Qnq {s:List UInt8} {a l:Int} (n:Nat) (h:Qgj s a l = none):opn s n a l = []:=by
  cases n
  · rfl
  · unfold opn; rw [h]
theorem Qq3 {s:List UInt8} {a l:Int} (h:(unf s a).2.2 ≠ 0):Qgj s a l = none:=if_neg fun x=>h x.1
structure Op (s:List UInt8) (f a0:Int) where
  l:List E
  a:Int
  hl:l.length<=4096
  h:l ++ opn s (4096 - l.length) a (f + l.length) = opn s 4096 a0 f
def Op.start (s:List UInt8) (f a0:Int):Op s f a0:=⟨[],a0,Nat.zero_le _,by simp⟩
theorem QvP {s:List UInt8} {n:Nat} {a l b:Int} {x:E} (hn:n < 4096) (h:Qgj s a l = some (x,b)):opn s (4096 - n) a l = x :: opn s (4096 - (n + 1)) b (l + 1):=by
  obtain ⟨m,hm⟩:∃ m,4096 - n = m + 1:=⟨4095 - n,by omega⟩
  rw [hm,show 4096 - (n + 1) = m by omega]
  conv=>lhs; unfold opn
  rw [h]
def Op.next {s:List UInt8} {f a0:Int} (o:Op s f a0) (hn:o.l.length < 4096) {x:E} {b:Int} (h:Qgj s o.a (f + o.l.length) = some (x,b)):Op s f a0:=⟨o.l ++ [x],b,by simp; omega,by
  have:=o.h
  rw [QvP hn h] at this
  rw [<- this,List.length_append,List.length_singleton,List.append_assoc,List.singleton_append]
  congr 3
  omega⟩
theorem Op.stop {s:List UInt8} {f a0:Int} (o:Op s f a0) (h:o.l.length < 4096->Qgj s o.a (f + o.l.length) = none):opn s 4096 a0 f = o.l:=by
  rw [<- o.h]
  by_cases hc:o.l.length < 4096
  · rw [Qnq _ (h hc),List.append_nil]
  · have:=o.hl
    rw [show 4096 - o.l.length = 0 by omega]; exact List.append_nil _
theorem Qy2 (s:List UInt8) (hs:s.length<=100000000):VCalls prog 174 [.pv (.str s)] [] (Ret (lgD (QbW s))):=by
  refine VCalls.unwk ?_
  refine dd Tryz.func174 ?_
  have c0:=QhO s hs 0
  have hu:=Qxa s 0
  generalize hR:QbW s = R
  unfold QDb at c0
  generalize hU:unf s 0 = u at *
  obtain ⟨u,a0,e0⟩:=u
  dsimp only at hu c0
  (unfold Tryz.f174; refine rn trivial ?_)
  by_cases he:e0 = 0
  rotate_left
  · skip
    have F:=@he
    refine rn F ?_
    repeat' (first
      | with_reducible exact ⟨⟩
      | refine vp F (c0) ?_)
    all_goals
      rw [<- hR]
      unfold QbW
      rw [if_neg (fun h=>by have h1:=h.1; rw [hU] at h1; exact he h1)]
      rfl
  subst he
  by_cases hl:u.length = 12
  rotate_left
  · have hl2:¬ (u.length:Int) = 12:=by omega
    have F:=@hl2
    refine rn F ?_
    repeat' (first
      | with_reducible exact ⟨⟩
      | refine vp F (c0) ?_)
    all_goals first
      | (rw [<- hR]; unfold QbW; rw [if_neg (fun h=>by have h1:=h.2.1; rw [hU] at h1; exact hl h1)]; rfl)
      | (exfalso; omega)
  have h4:4<=u.length:=by omega
  have c3:=QhR u (by omega) 4 8 (by omega) (by omega)
  have hN:IntKind.i64.wrap (Qly u 4 8) = Qmq u 4 8:=rfl
  rw [hN] at c3
  generalize hn:Qmq u 4 8 = f at *
  have hl3:(u.length:Int) = 12:=by omega
  by_cases hp:u.take 4 = [80,77,76,71]
  rotate_left
  · skip
    have F:=(And.intro @h4 (And.intro @hl3 @hp))
    refine rn F ?_
    repeat' (first
      | with_reducible exact ⟨⟩
      | (refine sG F ?_ ?_<;>intro hZ)
      | (refine sB F ?_ ?_<;>intro hZ)
      | refine vp F (c0) ?_
      | refine vp F (c3) ?_)
    all_goals first
      | (rw [<- hR]; unfold QbW; rw [if_neg (fun h=>by have h1:=h.2.2.1; rw [hU] at h1; exact hp h1)]; rfl)
      | (exfalso; omega)
      | skip
    all_goals (exfalso; simp_all)
  by_cases hf:1<=f/\f<=1099511627776
  rotate_left
  · skip
    have F:=(And.intro @h4 (And.intro @hl3 @hp))
    refine rn F ?_
    repeat' (first
      | with_reducible exact ⟨⟩
      | (refine sG F ?_ ?_<;>intro hZ)
      | refine vp F (c0) ?_
      | refine vp F (c3) ?_)
    all_goals first
      | (rw [<- hR]; unfold QbW; rw [if_neg (fun h=>by have h1:=h.2.2.2; rw [hU,hn] at h1; exact hf h1)]; rfl)
      | (exfalso; omega)
  have F:=(And.intro @h4 (And.intro @hl3 @hp))
  refine rn F ?_
  repeat' (first
    | with_reducible exact ⟨⟩
    | refine vp F (c0) ?_
    | refine vp F (c3) ?_)
  all_goals first | (exfalso; omega) | skip
  refine VLoop.nilOwnC 1 1 60 13 rfl rfl ?_
  refine rn trivial ?_
  refine Qh (fun o:{o:Op s f a0 × Int // o.2 = f + o.1.l.length - 1}=>⟨90,0,[(9,.ptr 1 0),(5,.int .i64 o.1.1.a),(2,.ptr 0 0),(0,.pv (.str s))],[⟨25,true,[.int .i64 0,.pv (.slc []),.int .i64 0]⟩,⟨25,true,[.int .i64 f,.own 2 13 0 o.1.1.l.length,.int .i64 o.1.2]⟩,⟨60,true,cells encE o.1.1.l⟩]⟩) (fun o=>4096 - o.1.1.l.length) ⟨(Op.start s f a0,f - 1),by simp [Op.start]⟩ (gc [0,1,2]) ?_
  rintro ⟨⟨o,d⟩,hd⟩
  dsimp only at hd |-
  have hol:=o.hl
  have hst:=o.stop
  have c4:=QhO s hs o.a
  unfold QDb at c4
  have hu2:=Qxa s o.a
  have hso:Qgj s o.a (f + o.l.length) = if (unf s o.a).2.2 = 0/\(QpS (unf s o.a).1).2 = 0/\(QpS (unf s o.a).1).1.lsn = f + o.l.length then some ((QpS (unf s o.a).1).1,(unf s o.a).2.1) else none:=rfl
  generalize unf s o.a = v at *
  obtain ⟨v,b,e⟩:=v
  dsimp only at hu2 hso c4
  have c5:=QoV v (by omega)
  generalize QpS v = D at *
  have hb:(o.l.length + 1) * 128<=140737488355328:=by omega
  have fin:(o.l.length < 4096->Qgj s o.a (f + o.l.length) = none)->DV.tup [.agg [.int .i64 f,.pv (.sl (fz encE o.l)),.int .i64 d],.int .i64 0] = lgD R:=fun h=>by
    have h1:hdO s:=by unfold hdO; rw [hU,hn]; exact ⟨rfl,hl,hp,hf⟩
    have h2:QA5 s = o.l:=by unfold QA5; rw [hU,hn]; exact hst h
    rw [<- hR,hd]
    unfold QbW
    rw [if_pos h1,h2,hU,hn]
    rfl
  have F:=@hb
  refine rn F ?_
  repeat' (first
    | with_reducible exact ⟨⟩
    | (refine sG F ?_ ?_<;>intro hZ)
    | (refine sB F ?_ ?_<;>intro hZ)
    | refine vp F (c4) ?_
    | refine vp F (c5) ?_)
  · exact fin fun _=>by rw [hso,if_neg fun h=>by have h1:=h.1; omega]
  · exact fin fun _=>by rw [hso,if_neg fun h=>by have h1:=h.2.1; have h2:=h.2.2; omega]
  · have hl1:(o.l ++ [D.1]).length = o.l.length + 1:=by simp
    refine ⟨⟨(o.next (by omega) (x:=D.1) (b:=b) (by rw [hso,if_pos ⟨by omega,by omega,by omega⟩]),D.1.lsn),?_⟩,?_,?_⟩
    · dsimp only [Op.next]; rw [hl1]; omega
    · dsimp only [Op.next]; rw [hl1]; omega
    · dsimp only [Op.next]
      rw [hl1]
      exact (gc [0,1,5])
  · exact fin fun _=>by rw [hso,if_neg fun h=>by have h1:=h.2.1; omega]
  · exact fin fun h=>by omega
theorem QkP {s t:List UInt8} {a b:Nat}:∀ {k:Nat},(∀ i,i < k->s.getD (a + i) 0 = t.getD (b + i) 0)->leN s a k = leN t b k
  | 0,_=>rfl
  | k + 1,h=>by rw [leN,leN,QkP (fun i hi=>h i (by omega)),h k (by omega)]
theorem Qsz (s t:List UInt8) (n:Int) (k:Nat) (hk:k<=8):leN (Qao s n k ++ t) s.length k = u64N n % 2 ^ (8 * k):=by
  have h:=QmQ s t n k hk k (Nat.le_refl _)
  rw [QeG _ _ _ hk] at h
  omega
def frq (q:List UInt8):List UInt8:=Qao [] q.length 4 ++ q
theorem QmA (q:List UInt8):(frq q).length = q.length + 4:=by rw [frq,List.length_append,Qq]; simp; omega
theorem Qs6 {q:List UInt8} (h:q.length<=8392):frm q = Qao (frq q) (QlX (frq q)) 4:=by rw [frm,if_pos h]; rfl
theorem QgO {q:List UInt8} (h:q.length<=8392):(frm q).length = q.length + 8:=by rw [Qs6 h,Qq,QmA]
theorem Qr4 (p q:List UInt8) (n:Int) (k:Nat):p ++ Qao q n k = Qao (p ++ q) n k:=by simp [Qao]
theorem Qs5 {q:List UInt8} (h:q.length<=8392) (p r:List UInt8):p ++ (frm q ++ r) = Qao (p ++ frq q) (QlX (frq q)) 4 ++ r:=by
  rw [Qs6 h,<- Qr4,List.append_assoc]
theorem QCg {q:List UInt8} (h:q.length<=8392) (p r:List UInt8):n4 (p ++ (frm q ++ r)) p.length = q.length:=by
  have:=Qsz p (q ++ ((List.range 4).map (Qlf (QlX (frq q))) ++ r)) q.length 4 (by omega)
  have e:p ++ (frm q ++ r) = Qao p q.length 4 ++ (q ++ ((List.range 4).map (Qlf (QlX (frq q))) ++ r)):=by
    rw [Qs6 h]
    generalize QlX (frq q) = z
    simp only [frq,Qao,List.nil_append,List.append_assoc]
  rw [n4,e,this]
  unfold u64N; omega
theorem QCf {q:List UInt8} (h:q.length<=8392) (p r:List UInt8):(n4 (p ++ (frm q ++ r)) (p.length + 4 + q.length):Int) = QlX (frq q):=by
  have:=Qsz (p ++ frq q) r (QlX (frq q)) 4 (by omega)
  have hx:=QlW (frq q)
  have hl:(p ++ frq q).length = p.length + 4 + q.length:=by rw [List.length_append,QmA]; omega
  rw [Qs5 h,n4,<- hl,this]
  unfold u64N; omega
theorem QCy {q:List UInt8} (h:q.length<=8392) (p r:List UInt8):((p ++ (frm q ++ r)).take (p.length + 4 + q.length)).drop p.length = frq q:=by
  have hl:(p ++ frq q).length = p.length + 4 + q.length:=by rw [List.length_append,QmA]; omega
  rw [Qs5 h,Qao,List.append_assoc,List.take_left' hl,List.drop_left]
theorem Qxb {q:List UInt8} (h:q.length<=8392) (p r:List UInt8):unf (p ++ (frm q ++ r)) p.length = (q,((p.length + (q.length + 8):Nat):Int),0):=by
  have h1:=QCg h p r
  have h2:=QCf h p r
  have h3:=QCy h p r
  have hl:=QgO h
  have hs:(p ++ (frm q ++ r)).length = p.length + (q.length + 8) + r.length:=by rw [List.length_append,List.length_append,hl]; omega
  unfold unf
  rw [Int.toNat_natCast,if_neg (by omega),if_neg (by omega),h1,if_neg (by omega),if_neg (by omega),h2,h3,if_neg (by simp)]
  have e:((p ++ (frm q ++ r)).take (p.length + 4 + q.length)).drop (p.length + 4) = q:=by
    rw [<- List.drop_drop,h3,frq,List.drop_left' (by rw [Qq]; rfl)]
  rw [e]
  congr 2
  omega
theorem Qyr {q:List UInt8} (h:q.length<=8392) (p:List UInt8) (k:Nat) (hk:k < q.length + 8):(unf (p ++ (frm q).take k) p.length).2.2 = 5:=by
  have hl:=QgO h
  have hs:(p ++ (frm q).take k).length = p.length + k:=by rw [List.length_append,List.length_take]; omega
  unfold unf
  rw [Int.toNat_natCast,if_neg (by omega)]
  by_cases h4:k < 4
  · rw [if_pos (by omega)]
  have h1:=QCg h p []
  have h0:n4 (p ++ (frm q).take k) p.length = q.length:=by
    rw [<- h1]
    refine QkP fun i hi=>?_
    rw [List.getD_eq_getElem?_getD,List.getD_eq_getElem?_getD,List.getElem?_append_right (by omega),List.getElem?_append_right (by omega),List.getElem?_take,if_pos (by omega),List.append_nil]
  rw [if_neg (by omega),h0,if_neg (by omega),if_pos (by omega)]
theorem Qyq (p:List UInt8):(unf p p.length).2.2 = 5:=by
  unfold unf
  rw [Int.toNat_natCast,if_neg (by omega),if_pos (by omega)]
theorem Qsj (s p:List UInt8) (n:Int) (k:Nat) (hk:k<=8) (hp:Qao p n k <+: s) (h:0<=n/\n < 2 ^ (8 * k)/\n<=9223372036854775807):Qmq s p.length k = n:=by
  obtain ⟨t,rfl⟩:=hp
  unfold Qmq
  rw [QmQ p t n k hk k (Nat.le_refl _)]
  have e:u64N n % 2 ^ (8 * k) = n.toNat:=by
    have h1:u64N n = n.toNat:=by unfold u64N; omega
    have h2:((2:Int) ^ (8 * k)) = ((2 ^ (8 * k):Nat):Int):=by rw [Int.natCast_pow]; rfl
    rw [h1]
    exact Nat.mod_eq_of_lt (by omega)
  rw [e,IntKind.wrap_i64]
  omega
def At {t:List UInt8} (r:RS t) (p:List UInt8):Prop:=(r.e = 5/\t.length < p.length)\/(r.e = 0/\r.at_ = p.length)
theorem Qbg (p:List UInt8) (n:Int) (k:Nat):p <+: Qao p n k:=List.prefix_append _ _
theorem Qxl {t s p:List UInt8} (ht:t <+: s) (hp:p <+: s) (hl:p.length<=t.length):p <+: t:=List.prefix_of_prefix_length_le hp ht hl
theorem QcU {t s p:List UInt8} (ht:t <+: s) (n:Int) (k:Nat) (hk:k<=8) (hp:Qao p n k <+: s) (h:0<=n/\n < 2 ^ (8 * k)/\n<=9223372036854775807) {r:RS t} (ha:At r p) :
    At (QcE t r k).2 (Qao p n k)/\((QcE t r k).2.e = 0->(QcE t r k).1 = n):=by
  have hl:=Qq p n k
  unfold QcE
  rcases ha with ⟨h1,h2⟩ | ⟨h1,h2⟩
  · rw [if_neg (by omega)]
    refine ⟨.inl ⟨h1,by omega⟩,fun h=>absurd (h1.symm.trans h) (by decide)⟩
  · rw [if_pos h1]
    split
    · rename_i hb
      refine ⟨.inr ⟨rfl,by dsimp only; omega⟩,fun _=>?_⟩
      have e:r.at_.toNat = p.length:=by omega
      dsimp only
      rw [e]
      exact Qsj t p n k hk (Qxl ht hp (by omega)) h
    · refine ⟨.inl ⟨rfl,by omega⟩,fun h=>absurd (show (5:Int) = 0 from h) (by decide)⟩
theorem QqR {t s p d:List UInt8} (ht:t <+: s) (hp:p ++ d <+: s) {n:Int} {r:RS t} (ha:At r p) (hn:r.e = 0->n = d.length) :
    At (QeS t r n).2 (p ++ d)/\((QeS t r n).2.e = 0->(QeS t r n).1 = d):=by
  have hl:(p ++ d).length = p.length + d.length:=List.length_append
  unfold QeS
  rcases ha with ⟨h1,h2⟩ | ⟨h1,h2⟩
  · rw [if_neg (by omega)]
    refine ⟨.inl ⟨h1,by omega⟩,fun h=>absurd (h1.symm.trans h) (by decide)⟩
  · rw [if_pos h1]
    have hn:=hn h1
    split
    · rename_i hb
      refine ⟨.inr ⟨rfl,by dsimp only; omega⟩,fun _=>?_⟩
      have e:r.at_.toNat = p.length:=by omega
      have e2:(r.at_ + n).toNat = (p ++ d).length:=by omega
      dsimp only
      rw [e,e2]
      have:=Qxl ht hp (by omega)
      rw [<- List.prefix_iff_eq_take.1 this,List.drop_left]
    · refine ⟨.inl ⟨rfl,by omega⟩,fun h=>absurd (show (5:Int) = 0 from h) (by decide)⟩
theorem QtN {t s p:List UInt8} (ht:t <+: s) (c:Ce) (hc:c.okB = true) (hp:Qai p c <+: s) {r:RS t} (ha:At r p) :
    At (Qfa t r).2 (Qai p c)/\((Qfa t r).2.e = 0->(Qfa t r).1 = c):=by
  obtain ⟨set,data⟩:=c
  simp only [Ce.okB,Bool.and_eq_true,decide_eq_true_eq,Bool.or_eq_true,beq_iff_eq] at hc
  unfold Qfa Qhz
  unfold Qai at hp |-
  cases set
  · simp only [Bool.false_eq_true,if_false] at hp |-
    obtain ⟨h1,h2⟩:=QcU (r:=r) ht 255 1 (by omega) hp ⟨by omega,by omega,by omega⟩ ha
    have hd:data = []:=by rcases hc.2 with h | h; cases h; exact h
    subst hd
    split
    · rename_i h
      exact absurd (h2 h.1) h.2
    · exact ⟨h1,fun _=>rfl⟩
  · simp only [if_true] at hp |-
    obtain ⟨h1,h2⟩:=QcU (r:=r) ht data.length 1 (by omega) ((List.prefix_append _ _).trans hp) ⟨by omega,by omega,by omega⟩ ha
    split
    · rename_i h
      have h3:=h2 h.1
      rw [if_neg (by omega)]
      obtain ⟨h4,h5⟩:=QqR ht hp h1 (n:=(QcE t r 1).1) (fun _=>h3)
      exact ⟨h4,fun h=>by rw [h5 h]⟩
    · rename_i h
      have h3:(QcE t r 1).2.e ≠ 0:=fun e=>h ⟨e,by rw [h2 e]; omega⟩
      rcases h1 with ⟨h4,h5⟩ | ⟨h4,h5⟩
      · refine ⟨.inl ⟨h4,?_⟩,fun e=>absurd e h3⟩
        rw [List.length_append]; omega
      · exact absurd h4 h3
theorem Qhq {t:List UInt8} {r:RS t} {k:Nat} (h:(QcE t r k).2.e = 0):r.e = 0:=by
  unfold QcE at h
  split at h
  · assumption
  · exact h
theorem QBw {t:List UInt8} {r:RS t} {n:Int} (h:(QeS t r n).2.e = 0):r.e = 0:=by
  unfold QeS at h
  split at h
  · assumption
  · exact h
theorem QxH {t:List UInt8} {r:RS t} (h:(Qfa t r).2.e = 0):r.e = 0:=by
  unfold Qfa Qhz at h
  split at h
  · rename_i hc
    exact Qhq hc.1
  · exact Qhq h
theorem QDL (e:E) (h:e.okB = true):(0<=e.lsn/\e.lsn<=1099511627776)/\(0<=e.kind/\e.kind < 256)/\(0<=e.tx/\e.tx < 4294967296)/\(0<=e.ptx/\e.ptx<=1099511627776)/\(0<=e.ppg/\e.ppg<=1099511627776)/\(0<=e.ref/\e.ref<=1099511627776)/\(0<=e.c.pg/\e.c.pg < 64)/\(0<=e.c.sl/\e.c.sl < 16)/\e.c.b.okB = true/\e.c.a.okB = true:=by
  obtain ⟨lsn,kind,tx,ptx,ppg,ref,⟨pg,sl,⟨b1,b2⟩,⟨a1,a2⟩⟩,blob⟩:=e
  simp only [E.okB,Bool.and_eq_true,bef,decide_eq_true_eq] at h
  obtain ⟨h0,h⟩:=h
  unfold E.kindB at h
  dsimp only at h0 h |-
  split at h
  · simp [Ch.okB,Ce.okB,txB] at h |-; grind
  split at h
  · simp [Ch.okB,Ce.okB,txB] at h |-; grind
  split at h
  · simp [Ch.no,Ce.no,Ce.okB,txB] at h |-; grind
  split at h
  · simp [Ch.no,Ce.no,Ce.okB] at h |-; grind
  split at h
  · simp [Ch.ix,Ce.no,Ce.okB] at h |-; grind
  · simp at h
theorem Qh6 (p:List UInt8) (c:Ce):p <+: Qai p c:=by
  unfold Qai
  split
  · exact (Qbg _ _ _).trans (List.prefix_append _ _)
  · exact Qbg _ _ _
theorem QCG (x:E) (h:x.okB = true) {t s:List UInt8} (ht:t <+: s) (hx:Qk7 x <+: s):At (Qtq t).2 (Qk7 x)/\((Qtq t).2.e = 0->(Qtq t).1 = x):=by
  obtain ⟨i1,i2,i3,i4,i5,i6,i7,i8,i9,i10⟩:=QDL x h
  obtain ⟨l1,l2,l3⟩:=Qes h
  have a0:At (rs0 t) []:=.inr ⟨rfl,rfl⟩
  have P10:Qao (Qai (Qai (QaX x) x.c.b) x.c.a) x.blob.length 4 <+: s:=(List.prefix_append _ _).trans hx
  have P9:Qai (Qai (QaX x) x.c.b) x.c.a <+: s:=(Qbg _ _ _).trans P10
  have P8:Qai (QaX x) x.c.b <+: s:=(Qh6 _ _).trans P9
  have PH:QaX x <+: s:=(Qh6 _ _).trans P8
  unfold QaX at PH P8 P9 P10
  have P7:=(Qbg _ _ _).trans PH
  have P6:=(Qbg _ _ _).trans P7
  have P5:=(Qbg _ _ _).trans P6
  have P4:=(Qbg _ _ _).trans P5
  have P3:=(Qbg _ _ _).trans P4
  have P2:=(Qbg _ _ _).trans P3
  have P1:=(Qbg _ _ _).trans P2
  obtain ⟨b1,c1⟩:=QcU (r:=rs0 t) ht x.lsn 8 (by omega) P1 ⟨by omega,by omega,by omega⟩ a0
  obtain ⟨b2,c2⟩:=QcU ht x.kind 1 (by omega) P2 ⟨by omega,by omega,by omega⟩ b1
  obtain ⟨b3,c3⟩:=QcU ht x.tx 4 (by omega) P3 ⟨by omega,by omega,by omega⟩ b2
  obtain ⟨b4,c4⟩:=QcU ht x.ptx 8 (by omega) P4 ⟨by omega,by omega,by omega⟩ b3
  obtain ⟨b5,c5⟩:=QcU ht x.ppg 8 (by omega) P5 ⟨by omega,by omega,by omega⟩ b4
  obtain ⟨b6,c6⟩:=QcU ht x.ref 8 (by omega) P6 ⟨by omega,by omega,by omega⟩ b5
  obtain ⟨b7,c7⟩:=QcU ht x.c.pg 4 (by omega) P7 ⟨by omega,by omega,by omega⟩ b6
  obtain ⟨b8,c8⟩:=QcU ht x.c.sl 1 (by omega) PH ⟨by omega,by omega,by omega⟩ b7
  obtain ⟨b9,c9⟩:=QtN ht x.c.b i9 P8 b8
  obtain ⟨b10,c10⟩:=QtN ht x.c.a i10 P9 b9
  obtain ⟨b11,c11⟩:=QcU ht x.blob.length 4 (by omega) P10 ⟨by omega,by omega,by omega⟩ b10
  obtain ⟨b12,c12⟩:=QqR ht hx b11 c11
  unfold Qtq
  dsimp only
  refine ⟨b12,fun e12=>?_⟩
  have e11:=QBw e12
  have e10:=Qhq e11
  have e9:=QxH e10
  have e8:=QxH e9
  have e7:=Qhq e8
  have e6:=Qhq e7
  have e5:=Qhq e6
  have e4:=Qhq e5
  have e3:=Qhq e4
  have e2:=Qhq e3
  have e1:=Qhq e2
  rw [c1 e1,c2 e2,c3 e3,c4 e4,c5 e5,c6 e6,c7 e7,c8 e8,c9 e9,c10 e10,c12 e12]
theorem QCF (x:E) (h:x.okB = true):QpS (Qk7 x) = (x,0):=by
  obtain ⟨h1,h2⟩:=QCG x h (List.prefix_refl _) (List.prefix_refl _)
  unfold QpS
  rcases h1 with ⟨h3,h4⟩ | ⟨h3,h4⟩
  · omega
  · rw [if_pos h3,if_pos h4,h2 h3,if_pos h]
theorem Qez {e:E} (h:e.okB = true):(Qk7 e).length<=8392:=by
  obtain ⟨l1,l2,l3⟩:=Qes h
  have n1:=Qbw (QaX e) e.c.b
  have n2:=Qbw (Qai (QaX e) e.c.b) e.c.a
  rw [Qdr] at n1
  unfold Qk7
  rw [List.length_append,Qq]
  omega
theorem Qxy {e:E} (h:e.okB = true):frE e = frm (Qk7 e):=by unfold frE Qhy; rw [if_pos h]
theorem QuL {e:E} (h:e.okB = true) (p r:List UInt8):Qgj (p ++ (frE e ++ r)) p.length e.lsn = some (e,((p.length + (frE e).length:Nat):Int)):=by
  have h1:=Qxb (Qez h) p r
  have h2:=QCF e h
  have hl:=QgO (Qez h)
  rw [Qxy h]
  unfold Qgj
  rw [h1]
  dsimp only
  rw [h2,if_pos ⟨rfl,rfl,rfl⟩,hl]
def Qt6 (l:Int) (es:List E):Prop:=∀ i:Nat,i < es.length->(es.getD i E0).lsn = l + i/\(es.getD i E0).okB = true
theorem Qj8 {l:Int} {e:E} {r:List E} (h:Qt6 l (e :: r)):e.lsn = l/\e.okB = true/\Qt6 (l + 1) r:=by
  have h0:=h 0 (by simp)
  refine ⟨by simpa using h0.1,by simpa using h0.2,fun i hi=>?_⟩
  have:=h (i + 1) (by simpa using hi)
  simp only [List.getD_cons_succ] at this
  exact ⟨by omega,this.2⟩
theorem QhV (r:List UInt8):∀ (es:List E) (p:List UInt8) (l:Int) (n:Nat),Qt6 l es->es.length<=n ->
    opn (p ++ (es.flatMap frE ++ r)) n p.length l = es ++ opn (p ++ (es.flatMap frE ++ r)) (n - es.length) ((p.length + (es.flatMap frE).length:Nat):Int) (l + es.length)
  | [],p,l,n,_,_=>by simp
  | e :: t,p,l,n,h,hn=>by
    obtain ⟨h1,h2,h3⟩:=Qj8 h
    rw [List.length_cons] at hn
    obtain ⟨m,rfl⟩:∃ m,n = m + 1:=⟨n - 1,by omega⟩
    have hs:p ++ ((e :: t).flatMap frE ++ r) = p ++ (frE e ++ (t.flatMap frE ++ r)):=by rw [List.flatMap_cons]; simp only [List.append_assoc]
    have hs2:p ++ ((e :: t).flatMap frE ++ r) = (p ++ frE e) ++ (t.flatMap frE ++ r):=by rw [List.flatMap_cons]; simp only [List.append_assoc]
    have h4:=QuL h2 p (t.flatMap frE ++ r)
    rw [<- hs,h1] at h4
    have ih:=QhV r t (p ++ frE e) (l + 1) m h3 (by omega)
    rw [<- hs2] at ih
    have e1:opn (p ++ ((e :: t).flatMap frE ++ r)) (m + 1) p.length l = e :: opn (p ++ ((e :: t).flatMap frE ++ r)) m ((p.length + (frE e).length:Nat):Int) (l + 1):=by
      conv=>lhs; unfold opn
      rw [h4]
    rw [e1,<- List.length_append,ih,List.length_cons,List.flatMap_cons,List.length_append,List.length_append]
    rw [show m + 1 - (t.length + 1) = m - t.length by omega,List.cons_append]
    congr 3
    · omega
    · omega
theorem QkV {f:Int} (r:List UInt8):unf (Qc0 f ++ r) 0 = (Qao [80,77,76,71] f 8,20,0):=by
  have:=Qxb (q:=Qao [80,77,76,71] f 8) (by rw [Qq]; simp) [] r
  rw [List.nil_append] at this
  unfold Qc0
  rw [show (([]:List UInt8).length:Int) = 0 from rfl] at this
  rw [this,Qq]
  rfl
theorem Qe3 (f:Int):(Qc0 f).length = 20:=by
  unfold Qc0
  rw [QgO (by rw [Qq]; simp),Qq]; rfl
theorem Qwj {f:Int} (h:1<=f/\f<=1099511627776) (r:List UInt8):hdO (Qc0 f ++ r)/\Qmq (unf (Qc0 f ++ r) 0).1 4 8 = f:=by
  have h1:=QkV (f:=f) r
  have h2:Qmq (Qao [80,77,76,71] f 8) 4 8 = f:=Qsj _ [80,77,76,71] f 8 (by omega) (List.prefix_refl _) ⟨by omega,by omega,by omega⟩
  unfold hdO
  rw [h1]
  dsimp only
  refine ⟨⟨rfl,by rw [Qq]; rfl,?_,by omega,by omega⟩,h2⟩
  simp [Qao]
theorem Qkv {f:Int} (h:1<=f/\f<=1099511627776) {es:List E} (he:Qt6 f es) (hl:es.length<=4096) (r:List UInt8)
    (hr:es.length < 4096->Qgj (Qc0 f ++ (es.flatMap frE ++ r)) ((20 + (es.flatMap frE).length:Nat):Int) (f + es.length) = none):QbW (Qc0 f ++ (es.flatMap frE ++ r)) = (⟨f,es,f + es.length - 1⟩,0):=by
  obtain ⟨h1,h2⟩:=Qwj h (es.flatMap frE ++ r)
  have h3:=QkV (f:=f) (es.flatMap frE ++ r)
  have h4:=QhV r es (Qc0 f) f 4096 he hl
  rw [Qe3] at h4
  have h5:QA5 (Qc0 f ++ (es.flatMap frE ++ r)) = es:=by
    unfold QA5
    rw [h2,h3]
    dsimp only
    refine h4.trans ?_
    by_cases hc:es.length < 4096
    · rw [Qnq _ (hr hc),List.append_nil]
    · rw [show 4096 - es.length = 0 by omega]; exact List.append_nil _
  unfold QbW
  rw [if_pos h1,h2,h5]
theorem Qmu {x:Lg} (h:lgB x = true):Qt6 x.f x.es:=by
  unfold lgB at h
  simp only [Bool.and_eq_true,List.all_eq_true,List.mem_range] at h
  intro i hi
  have:=h.2 i hi
  simpa [lgC] using this
theorem QCl {x:Lg} (h:x.hd) (hs:Qt6 x.f x.es):lgB x = true:=by
  unfold lgB
  rw [decide_eq_true h,Bool.true_and,List.all_eq_true]
  intro i hi
  have:=hs i (List.mem_range.1 hi)
  simpa [lgC] using this
theorem QsW {α:Type} (l:List α) (n i:Nat) (h:i < n) (d:α):(l.take n).getD i d = l.getD i d:=by
  rw [List.getD_eq_getElem?_getD,List.getD_eq_getElem?_getD,List.getElem?_take,if_pos h]
theorem Qj7 {l:Int} {es:List E} (h:Qt6 l es) (n:Nat):Qt6 l (es.take n):=fun i hi=>by
  rw [List.length_take] at hi
  rw [QsW _ _ _ (by omega)]
  exact h i (by omega)
theorem QgQ:∀ (es:List E) (t:Nat),∃ j m,j<=es.length/\(es.flatMap frE).take t = (es.take j).flatMap frE ++ (frE (es.getD j E0)).take m/\(j < es.length->m < (frE (es.getD j E0)).length)/\(j = es.length->m = 0)
  | [],t=>⟨0,0,Nat.le_refl _,by simp,fun h=>absurd h (by simp),fun _=>rfl⟩
  | e :: r,t=>by
    by_cases h:t < (frE e).length
    · refine ⟨0,t,Nat.zero_le _,?_,fun _=>by simpa using h,fun h=>absurd h (by simp)⟩
      rw [List.flatMap_cons,List.take_append_of_le_length (by omega)]
      simp
    · obtain ⟨j,m,h1,h2,h3,h4⟩:=QgQ r (t - (frE e).length)
      refine ⟨j + 1,m,by rw [List.length_cons]; omega,?_,fun h=>?_,fun h=>?_⟩
      · rw [List.flatMap_cons,List.take_append,List.take_of_length_le (by omega),h2,List.take_succ_cons,List.flatMap_cons,List.getD_cons_succ,List.append_assoc]
      · rw [List.length_cons] at h
        rw [List.getD_cons_succ]; exact h3 (by omega)
      · rw [List.length_cons] at h
        exact h4 (by omega)
theorem Qfn {d l:Int}:∀ (es:List E),Qt6 l es->l - 1<=d->d<=l + es.length - 1->(es.filter fun e=>decide (e.lsn<=d)) = es.take (d - l + 1).toNat/\(es.filter fun e=>!decide (e.lsn<=d)) = es.drop (d - l + 1).toNat
  | [],_,h1,h2=>by simp
  | e :: r,h,h1,h2=>by
    obtain ⟨a1,a2,a3⟩:=Qj8 h
    rw [List.length_cons] at h2
    by_cases hc:l<=d
    · obtain ⟨b1,b2⟩:=Qfn (d:=d) (l:=l + 1) r a3 (by omega) (by omega)
      obtain ⟨k,hk,hk2⟩:∃ k,(d - l + 1).toNat = k + 1/\(d - (l + 1) + 1).toNat = k:=⟨(d - l).toNat,by omega,by omega⟩
      rw [hk2] at b1 b2
      rw [hk,List.take_succ_cons,List.drop_succ_cons,List.filter_cons,List.filter_cons,if_pos (by simp; omega),if_neg (by simp; omega),b1,b2]
      exact ⟨rfl,rfl⟩
    · have hk:(d - l + 1).toNat = 0:=by omega
      rw [hk,List.take_zero,List.drop_zero]
      have hall:∀ x ∈ (e :: r),¬ x.lsn<=d:=fun x hx=>by
        obtain ⟨i,hi,rfl⟩:=List.getElem_of_mem hx
        have:=(h i hi).1
        rw [Qn _ _ hi] at this
        omega
      refine ⟨List.filter_eq_nil_iff.2 fun x hx=>by have:=hall x hx; simp; omega,List.filter_eq_self.2 fun x hx=>by have:=hall x hx; simp; omega⟩
theorem Qpm {x:Lg} (h:lgB x = true) (torn:Int):∃ n,(x.d - x.f + 1).toNat<=n/\n<=x.es.length/\QbW (Qc5 x torn) = (⟨x.f,x.es.take n,x.f + n - 1⟩,0):=by
  have hh:=QaC h
  simp only [Lg.hd] at hh
  have hs:=Qmu h
  obtain ⟨f1,f2⟩:=Qfn (d:=x.d) (l:=x.f) x.es hs (by omega) (by omega)
  unfold Qc5
  rw [if_pos h]
  unfold QpR QrE
  rw [f1,f2]
  generalize hk:(x.d - x.f + 1).toNat = k
  obtain ⟨j,m,h1,h2,h3,h4⟩:=QgQ (x.es.drop k) torn.toNat
  rw [List.length_drop] at h1 h3 h4
  have hget:(x.es.drop k).getD j E0 = x.es.getD (k + j) E0:=by
    rw [List.getD_eq_getElem?_getD,List.getD_eq_getElem?_getD,List.getElem?_drop]
  have htk:x.es.take k ++ (x.es.drop k).take j = x.es.take (k + j):=by rw [<- List.take_add]
  have hlen:(x.es.take (k + j)).length = k + j:=by rw [List.length_take]; omega
  refine ⟨k + j,by omega,by omega,?_⟩
  rw [h2,hget,List.append_assoc,<- List.append_assoc,<- List.append_assoc,List.append_assoc,List.append_assoc,<- List.append_assoc (List.flatMap frE _),<- List.flatMap_append,htk]
  have:=Qkv (f:=x.f) ⟨by omega,by omega⟩ (Qj7 hs (k + j)) (by rw [hlen]; omega) ((frE (x.es.getD (k + j) E0)).take m) (fun _=>Qq3 (by
    by_cases hc:j < x.es.length - k
    · have h5:=h3 hc
      rw [hget] at h5
      have hok:=(hs (k + j) (by omega)).2
      rw [Qxy hok] at h5 |-
      rw [QgO (Qez hok)] at h5
      have:=Qyr (Qez hok) (Qc0 x.f ++ (x.es.take (k + j)).flatMap frE) m h5
      rw [List.length_append,Qe3,List.append_assoc] at this
      rw [this]; decide
    · rw [h4 (by omega),List.take_zero,List.append_nil]
      have:=Qyq (Qc0 x.f ++ (x.es.take (k + j)).flatMap frE)
      rw [List.length_append,Qe3] at this
      rw [this]; decide))
  rw [hlen] at this
  exact this
theorem Qsh (s:List UInt8):(QbW s).1.es.length<=4096:=by
  unfold QbW
  split
  · exact Qsg _ _ _ _
  · exact Nat.zero_le _
theorem Qrr (v:Dv) (hv:v.ps.length<=64) (s:List UInt8) (hs:s.length<=100000000) (n m:Int):VCalls prog 132 [.agg v.d,.pv (.str s),.int .i64 n,.int .i64 m] [] (QF svD fun r=>r.1.sm/\(r.2 = 0->(QbW s).2 = 0/\Ev (QbW s).1 r.1.k.lg)):=by
  refine dk Tryz.func132 ?_
  have c1:=Qy2 s hs
  have hl:=Qsh s
  generalize QbW s = o at *
  obtain ⟨x,e0⟩:=o
  dsimp only at hl c1 |-
  have c2:=QoJ x hl n
  have c3:=fun a ha=>QvD x hl a ha m
  have err:∀ z,z ≠ 0->QF svD (fun r=>r.1.sm/\(r.2 = 0->e0 = 0/\Ev x r.1.k.lg)) (svD (Sv0,z)) []:=fun z hz=>⟨rfl,rfl,(Sv0,z),rfl,Qc9,fun h=>absurd h hz⟩
  (unfold Tryz.f132; refine rn trivial ?_)
  refine rn F ?_
  repeat' (first
    | with_reducible exact ⟨⟩
    | (refine sB F ?_ ?_<;>intro hZ)
    | refine vp F (c1) ?_
    | (refine Qk (c2) rfl ?_; rintro ⟨a,e1⟩ ha; refine rn F ?_)
    | (refine Qk (c3 a ha) rfl ?_; rintro ⟨k,e2⟩ hk; refine rn F ?_))
  all_goals first
    | exact err _ (by assumption)
    | exact ⟨rfl,rfl,(⟨k,v⟩,0),rfl,⟨hk.1,hv⟩,fun _=>⟨by assumption,hk.2 (by assumption)⟩⟩
    | skip
theorem Qrq (v:Dv) (hv:v.ps.length<=64) (s:List UInt8) (hs:s.length<=100000000) (n m:Int):VCalls prog 110 [.agg v.d,.pv (.str s),.int .i64 n,.int .i64 m] [] (QF svD fun r=>r.1.sm/\(r.2 = 0->(QbW s).2 = 0/\Ev (QbW s).1 r.1.k.lg)):=by
  refine dk Tryz.func110 ?_
  have c1:=Qrr v hv s hs n m
  generalize QbW s = o at *
  (unfold Tryz.f110; refine rn trivial ?_)
  refine rn F ?_
  repeat' (first
    | with_reducible exact ⟨⟩
    | (refine Qk (c1) rfl ?_; rintro ⟨k,e⟩ hk; refine rn F ?_))
  all_goals first
    | exact ⟨rfl,rfl,(k,e),rfl,hk⟩
    | skip
section
attribute [local go_sem] Qbb
@[go_sem] def crD (a:Dv × Lg × Int):DV:=.tup [.agg a.1.d,.pv (.str (Qc5 a.2.1 a.2.2))]
def crQ (s:Sv) (a:Dv × Lg × Int):Prop:=a.1.ps.length<=64/\a.2.1.f = s.k.lg.f/\a.2.1.es = s.k.lg.es/\(lgB s.k.lg = true->lgB a.2.1 = true)
theorem Qrj (s:Sv) (hs:s.sm) (torn id cut:Int):VCalls prog 109 [.agg s.d,.int .i64 torn,.int .i64 id,.int .i64 cut] [] (QF crD (crQ s)):=by
  refine dk Tryz.func109 ?_
  have c1:=Qcr s.k.pl (Nat.le_trans hs.1.2.1 (by decide)) id
  have hl:=hs.1.1
  have c2:=Qnh s.k.lg (by omega) torn
  have c3:=fun d=>Qnh ⟨s.k.lg.f,s.k.lg.es,d⟩ (by dsimp only; omega) torn
  have h0:crQ s (s.v,s.k.lg,torn):=⟨hs.2,rfl,rfl,fun h=>h⟩
  (unfold Tryz.f109; refine rn trivial ?_)
  refine rn F ?_
  repeat' (first
    | with_reducible exact ⟨⟩
    | (refine Qd (id:=1) [0,1,2,3] [⟨[4,5],[4],6,[2,3],[]⟩,⟨[5],[5],7,[],[]⟩] (by kernel_rfl) (by kernel_rfl) ?_; refine rn F ?_))
  refine vp hl c1 ?_
  rcases Qcw s.k.pl id with hn | ⟨_,i,hi,hfi,_⟩
  · rw [hn]
    refine rn @hl ?_
    refine rn F ?_
    repeat' (first
      | with_reducible exact ⟨⟩
      | refine vp F (c2) ?_
      | (refine Qd (id:=9) [0,1,2,3] [⟨[],[],4,[0,1],[]⟩,⟨[],[],5,[1,2,3],[]⟩,⟨[],[],6,[],[]⟩] (by kernel_rfl) (by kernel_rfl) ?_; refine rn F ?_))
    exact ⟨rfl,rfl,(s.v,s.k.lg,torn),rfl,h0⟩
  · rw [hfi]
    have hg:=QbP s.k.pl.fs i hi
    generalize s.k.pl.fs.getD i Fm0 = f at *
    have c4:=Ql6 f.pg
    have c5:=Qei s.k hs.1 f.pg.lsn
    refine rn @hg ?_
    have c6:=fun b (hb:b.length<=256)=>QyN s.v (Nat.le_trans hs.2 (by decide)) id b (Nat.le_trans hb (by decide)) cut
    have F:=@hg
    refine rn F ?_
    repeat' (first
      | with_reducible exact ⟨⟩
      | (refine sB F ?_ ?_<;>intro hZ)
      | refine vp F (c2) ?_
      | (refine Qk (c4) rfl ?_; rintro ⟨b,e1⟩ hb; refine rn F ?_)
      | (refine Qk (c5) rfl ?_; rintro d hd; refine rn F ?_)
      | (refine Qk (c6 b hb) rfl ?_; rintro ⟨v2,e2⟩ hv; refine rn F ?_)
      | refine vp F (c3 d) ?_
      | (refine Qd (id:=5) [0,1,2,3,4,5,6,7,8] [⟨[],[],9,[1,2,3,4,5,6,7],[]⟩,⟨[],[],10,[],[]⟩] (by kernel_rfl) (by kernel_rfl) ?_; refine rn F ?_)
      | (refine Qd (id:=9) [0,1,2,3] [⟨[],[],4,[0,1],[]⟩,⟨[],[],5,[1,2,3],[]⟩,⟨[],[],6,[],[]⟩] (by kernel_rfl) (by kernel_rfl) ?_; refine rn F ?_))
    all_goals first
      | exact ⟨rfl,rfl,(s.v,s.k.lg,torn),rfl,h0⟩
      | exact ⟨rfl,rfl,(v2,⟨s.k.lg.f,s.k.lg.es,d⟩,torn),rfl,hv,rfl,rfl,hd⟩
      | exact ⟨rfl,rfl,(s.v,⟨s.k.lg.f,s.k.lg.es,d⟩,torn),rfl,hs.2,rfl,rfl,hd⟩
      | skip
end
section
attribute [local go_sem] Qbb
theorem QtC {x y:Lg} {t:Int} (hx:LgI x) (hf:y.f = x.f) (hv:lgB y = true) {z:Lg} (he:Ev (QbW (Qc5 y t)).1 z):LgI z:=by
  obtain ⟨n,h1,h2,h3⟩:=Qpm hv t
  rw [h3] at he
  have hd:=QaC hv
  simp only [Lg.hd] at hd
  have hl:(y.es.take n).length = n:=by rw [List.length_take]; omega
  refine ⟨he.ok (QCl (x:=⟨y.f,y.es.take n,y.f + n - 1⟩) ⟨hd.1,hd.2.1,by dsimp only; omega,by dsimp only; omega,by dsimp only; omega⟩ (show Qt6 y.f (y.es.take n) from Qj7 (Qmu hv) n)),he.f.trans (hf.trans hx.2)⟩
theorem QtD {x:Lg} (hx:x.es.length<=4096) (t:Int):(Qc5 x t).length<=100000000:=by
  have h9:=QkW x.f
  have h8:=QnK x.es x.d
  have h7:=Qng x.es x.d
  unfold Qc5
  split
  · rw [List.length_append,List.length_append,List.length_take]
    omega
  · exact Nat.zero_le _
structure Tz (n:Nat) where
  i:Nat
  l:List Int
  hi:i<=n
  hl:l.length = n
def crI (c:Sc) (n m:Nat) (c':Sc) (_:Rs):Prop:=m = 0/\c'.sm n/\(LgI c.s.k.lg->LgI c'.s.k.lg)
theorem QrR (c:Sc) (n:Nat) (hn:n<=2000) (hc:c.sm n) (t:Sp):VCalls prog 95 [.ptr 0 0,.agg t.d] [scB c 1 2,scT c.tx,scR c.rd] (ScEnd rsD (crI c n)):=by
  refine QK (fn:=Tryz.f95) Tryz.func95 rfl (by kernel_rfl) (by simp [Tryz.f95]) ?_
  have c1:=Qrj c.s hc.1 t.torn t.pg t.cut
  (unfold Tryz.f95; refine rn trivial ?_)
  refine rn F ?_
  repeat' (first
    | with_reducible exact ⟨⟩
    | (refine Qk (c1) rfl ?_; rintro ⟨v,y,tn⟩ hq; refine rn F ?_)
    | (refine QbT (id:=1) [[],[0],[0,1],[0,1,2],[],[4],[],[6],[],[8],[0,1,2,3,4,5,6,7,8,9],[0,1,2,3,4,5,6,7,8,9,10],[0,1,2,3,4,5,6,7,8,9,10,11],[0,1,2,3,4,5,6,7,8,9,10,11],[],[0,1,2,3,4,5,6,7,8,9,10,11,12,14],[0,1,2,3,4,5,6,7,8,9,10,11,12,13,14,15]] [0,1,2,3,4,5,6,7,8,9] [⟨[14],[],10,[],[11,12,13]⟩,⟨[14],[14],15,[13],[]⟩,⟨[],[],16,[],[]⟩] (by kernel_rfl) (by kernel_rfl) (by kernel_rfl) ?_; refine rn F ?_)
    | (refine QbT (id:=2) [[],[],[],[2],[2,3],[2,3,4],[2,3,4,5],[2,3,4,5,6],[],[8],[8,9],[8,9,10],[8,9,10,11],[8,9,10,11,12],[8,9,10,11,12,13],[0,1,2,3,4,5,6,7,8,9,10,11,12,13,14],[0,1,2,3,4,5,6,7,8,9,10,11,12,13,14,15],[0,1,2,3,4,5,6,7,8,9,10,11,12,13,14,15,16],[0,1,2,3,4,5,6,7,8,9,10,11,12,13,14,15,16],[],[0,1,2,3,4,5,6,7,8,9,10,11,12,13,14,15,16,17,19],[0,1,2,3,4,5,6,7,8,9,10,11,12,13,14,15,16,17,18,19,20]] [0,1,2,3,4,5,6,7,8,9,10,11,12,13,14] [⟨[19],[],15,[],[16,17,18]⟩,⟨[19],[19],20,[18],[]⟩,⟨[],[],21,[],[]⟩] (by kernel_rfl) (by kernel_rfl) (by kernel_rfl) ?_; refine rn F ?_))
  obtain ⟨q1,q2,q3,q4⟩:=hq
  dsimp only at q1 q2 q3 q4
  have c2:=Qrq v q1 (Qc5 y tn) (QtD (by rw [q3]; exact hc.1.1.1) tn) c.s.k.pg c.s.k.pl.size
  have hI:=fun (h:LgI c.s.k.lg) (z:Lg) (he:Ev (QbW (Qc5 y tn)).1 z)=>QtC h q2 (q4 h.1) he
  generalize Qc5 y tn = str at *
  generalize QbW str = o at *
  refine rn F ?_
  repeat' (first
    | with_reducible exact ⟨⟩
    | (refine Qk (c2) rfl ?_; rintro ⟨s2,e⟩ hk; refine rn F ?_))
  obtain ⟨k1,k2⟩:=hk
  dsimp only at k1 k2
  refine Qh (fun r:Tz c.tx.length=>⟨70,3,[(9,.int .i64 r.i),(8,.int .i64 e),(7,.ptr 4 0),(4,.ptr 3 0),(0,.ptr 0 0)],[scB ⟨c.s,r.l,c.rd,c.dead⟩ 1 2,scT r.l,scR c.rd,⟨138,true,[.int .i64 0,.int .i64 0,.int .i64 0,.bool false,.pv (.str []),.int .i64 0]⟩,⟨84,true,s2.d⟩]⟩) (fun r=>c.tx.length - r.i) ⟨0,c.tx,Nat.zero_le _,rfl⟩ (gc [0,1,2,4,6]) ?_
  rintro ⟨i,l,hi,hl⟩
  dsimp only
  have hsm:∀ (z:Sv) (d:Bool),z.sm->(⟨z,l,c.rd,d⟩:Sc).sm n:=fun z d hz=>⟨hz,by dsimp only; rw [hl]; exact hc.2.1,hc.2.2⟩
  have htx:=hc.2.1
  by_cases hil:i < c.tx.length
  · have hil2:i < l.length:=by omega
    have hset:=Qh5 l i 0
    have F:=@hil2
    refine rn F ?_
    refine ⟨⟨i + 1,l.set i 0,hil,by rw [List.length_set]; exact hl⟩,by dsimp only; omega,?_⟩
    dsimp only
    rw [List.length_set]
    exact (gc [0,1,2,3,4])
  have hil2:¬ i < l.length:=by omega
  by_cases he:e = 0
  · subst he
    have c3:=Qeh 0
    have F:=trivial
    refine rn F ?_
    repeat' (first
      | with_reducible exact ⟨⟩
      | refine vp F (c3) ?_)
    exact QB ⟨70,3,[(4,.ptr 3 0)],[scB ⟨s2,l,c.rd,c.dead⟩ 1 2,scT l,scR c.rd,⟨138,true,(QfA 0).d⟩]⟩ (gc [0,1,2,3]) ⟨⟨s2,l,c.rd,c.dead⟩,QfA 0,_,rfl,rfl,.inl ⟨⟨rfl,hsm s2 _ k1,fun h=>hI h _ (k2 rfl).2⟩,rfl⟩⟩
  · have c3:=Qeh e
    have F:=@he
    refine rn F ?_
    repeat' (first
      | with_reducible exact ⟨⟩
      | refine vp F (c3) ?_)
    exact QB ⟨70,3,[(4,.ptr 3 0)],[scB ⟨c.s,l,c.rd,true⟩ 1 2,scT l,scR c.rd,⟨138,true,(QfA e).d⟩]⟩ (gc [0,1,2,3]) ⟨⟨c.s,l,c.rd,true⟩,QfA e,_,rfl,rfl,.inl ⟨⟨rfl,hsm c.s _ hc.1,fun h=>h⟩,rfl⟩⟩
theorem Qu0 (c:Sc) (n:Nat) (hn:n<=2000) (hc:c.sm n) (t:Sp) (ht:t.kind = 6):Qg5 LgI c n t:=by
  refine QK (fn:=Tryz.f70) Tryz.func70 rfl (by kernel_rfl) (by simp [Tryz.f70]) ?_
  obtain ⟨k,tx,pg,torn,cut,a⟩:=t
  dsimp only at ht
  subst ht
  (unfold Tryz.f70; refine rn trivial ?_)
  refine QjM (c:=c) 0 1 2 (QrR c n hn hc ⟨6,tx,pg,torn,cut,a⟩) rfl rfl rfl (by decide) (by decide) (by decide) rfl rfl ?_ (fun _ _ h=>absurd h.1 (by decide)) (fun _ _ h=>absurd h.1 (by decide))
  rintro c1 r1 ⟨-,q1,q2⟩ B
  refine rn trivial ?_
  exact QB ⟨132,3,[(4,.ptr 3 0)],[scB c1 1 2,scT (Sc.tx c1),scR (Sc.rd c1),⟨138,true,Rs.d (r1)⟩]⟩ (gc [0,1,2,4]) ⟨c1,r1,_,rfl,rfl,.inl ⟨⟨⟨q1.1,Nat.le_succ_of_le q1.2.1,Nat.le_succ_of_le q1.2.2⟩,q2⟩,rfl⟩⟩
end
section
attribute [local go_sem] cb cc
theorem Qyy (c:C) (m n:Nat) (h1:1<=m) (h2:m<=1000) (h3:1<=n) (h4:n<=1000):VCalls prog 71 [.ptr 0 0,.int .i64 m,.int .i64 n,.bool true] [cb c] (CX fun r=>∃ t:Sp,r = .agg t.d):=by
  refine dd Tryz.func71 ?_
  (unfold Tryz.f71; refine rn trivial ?_)
  refine rn F ?_
  repeat' (first
    | with_reducible exact ⟨⟩
    | (refine sB F ?_ ?_<;>intro hZ)
    | (refine QO (k:=0) (QW _ 16 (by omega) (by omega)) rfl rfl ?_; rintro _ _ ⟨_,rfl,_⟩; refine rn F ?_)
    | (refine QO (k:=0) (QW _ 4 (by omega) (by omega)) rfl rfl ?_; rintro _ _ ⟨_,rfl,_⟩; refine rn F ?_)
    | (refine QO (k:=0) (QW _ 90 (by omega) (by omega)) rfl rfl ?_; rintro _ _ ⟨_,rfl,_⟩; refine rn F ?_)
    | (refine QO (k:=0) (QW _ 257 (by omega) (by omega)) rfl rfl ?_; rintro _ _ ⟨_,rfl,_⟩; refine rn F ?_)
    | (refine QO (k:=0) (QW _ m (by omega) (by omega)) rfl rfl ?_; rintro _ _ ⟨_,rfl,_⟩; refine rn F ?_)
    | (refine QO (k:=0) (QW _ n (by omega) (by omega)) rfl rfl ?_; rintro _ _ ⟨_,rfl,_⟩; refine rn F ?_)
    | (refine QO (k:=0) (Qxn _ ((m:Int) + 1) (by omega) (by omega)) rfl rfl ?_; rintro _ _ ⟨_,rfl,_⟩; refine rn F ?_)
    | (refine QO (k:=0) (Qw1 _ m h1 h2) rfl rfl ?_; rintro _ _ ⟨_,rfl,_⟩; refine rn F ?_))
  all_goals exact ⟨_,rfl,rfl,QaE _,rfl,⟨⟨_,_,_,_,_,⟨_,_,_,_⟩⟩,rfl⟩,_,rfl⟩
structure Sd1 (most:Nat) where
  k:Nat
  c:C
  l:List Sp
  hk:k + l.length<=most + 2
theorem QuS (c:C) (m most:Nat) (h1:1<=m) (h2:m<=1000) (hm:most<=1000):VCalls prog 55 [.ptr 0 0,.int .i64 m,.int .i64 most,.bool true] [cb c] (CX fun r=>∃ l:List Sp,r = .pv (.sl (fz QmE l))/\l.length<=most + 2):=by
  refine dd Tryz.func55 ?_
  (unfold Tryz.f55; refine rn trivial ?_)
  refine QO (k:=0) (c:=c) (Qxn c ((most:Int) + 1) (by omega) (by omega)) rfl rfl ?_
  rintro _ c1 ⟨k,rfl,hk⟩
  refine rn trivial ?_
  refine Qh (fun s:Sd1 most=>⟨30,1,[(10,.int .i64 s.k),(9,.own 1 9 0 s.l.length),(3,.bool true),(1,.int .i64 m),(0,.ptr 0 0)],[cb s.c,⟨143,true,cells QmE s.l⟩]⟩) (fun s=>s.k) ⟨k,c1,[spB,spB],by simp; omega⟩ (gc [0,1]) ?_
  rintro ⟨k,c2,l,hk⟩
  dsimp only
  have hb:(l.length + 1) * 80<=140737488355328:=by omega
  by_cases hc:0 < k
  · obtain ⟨k,rfl⟩:∃ k':Nat,k = k' + 1:=⟨k - 1,by omega⟩
    have hkk:((k + 1:Nat):Int) - 1 = k:=by omega
    have F:=(And.intro @hb @hkk)
    refine rn F ?_
    refine QO (k:=0) (c:=c2) (Qyy c2 m 5 h1 h2 (by omega) (by omega)) rfl rfl ?_
    rintro _ c3 ⟨t,rfl⟩
    have F:=(And.intro @hb (And.intro @QD7 @hkk))
    refine rn F ?_
    have hl2:(l ++ [t]).length = l.length + 1:=by simp
    refine ⟨⟨k,c3,l ++ [t],by rw [hl2]; omega⟩,by dsimp only; omega,?_⟩
    dsimp only
    rw [hl2]
    exact (gc [0,3])
  · skip
    have F:=@hb
    refine rn F ?_
    exact ⟨_,rfl,rfl,QaE _,rfl,⟨l,rfl,by omega⟩,_,rfl⟩
theorem Qos (c:C) (most:Nat) (hm:most<=1000):VCalls prog 31 [.ptr 0 0,.int .i64 most,.bool true] [cb c] (CX fun r=>∃ s:Sv,r = .agg s.d/\s.sm/\LgI s.k.lg):=by
  refine dd Tryz.func31 ?_
  (unfold Tryz.f31; refine rn trivial ?_)
  refine QO (k:=0) (c:=c) (QW c 4 (by omega) (by omega)) rfl rfl ?_
  rintro _ c1 ⟨x,rfl,hx⟩
  obtain ⟨m,hm1,hm2⟩:∃ m:Nat,1 + (x:Int) = m/\m<=4:=⟨1 + x,by omega,by omega⟩
  refine rn @hm1 ?_
  refine QO (k:=0) (c:=c1) (QW c1 3 (by omega) (by omega)) rfl rfl ?_
  rintro _ c2 ⟨y,rfl,hy⟩
  refine rn trivial ?_
  refine Qk (QBG m (1 + y) (by omega) (by omega)) rfl ?_
  rintro ⟨s,e⟩ ⟨hs,he,hg⟩
  dsimp only at hs he hg
  subst he
  refine rn F ?_
  repeat' (first
    | with_reducible exact ⟨⟩
    | (refine Qd (id:=3) [0,1,2,3,4] [⟨[],[],5,[0],[]⟩,⟨[],[],6,[1,2,3,4],[7,8,9,10]⟩,⟨[],[],11,[9,10],[]⟩] (by kernel_rfl) (by kernel_rfl) ?_; refine rn F ?_))
  refine QO (k:=0) (c:=c2) (QuS c2 m most (by omega) (by omega) hm) rfl rfl ?_
  rintro _ c3 ⟨l,rfl,hl⟩
  have c9:=QBI LgI (fun x y h hx=>⟨h.ok hx.1,h.f.trans hx.2⟩) s hs l (fun i _ hk c n hn hc=>Qu0 c n hn hc _ hk)
  refine rn trivial ?_
  refine Qk c9 rfl ?_
  rintro ⟨s1,out,rd⟩ ⟨q1,q2⟩
  refine rn trivial ?_
  exact ⟨_,rfl,rfl,QaE _,rfl,⟨s1,rfl,q1,q2 (by rw [hg]; exact ⟨QC0,rfl⟩)⟩,_,rfl⟩
theorem QsC (c:C) (most:Nat) (hm:most<=1000):VCalls prog 9 [.ptr 0 0,.int .i64 most,.bool true] [cb c] (CX fun r=>∃ k:Kn,r = .agg k.d/\k.sm/\LgI k.lg):=by
  refine dd Tryz.func9 ?_
  (unfold Tryz.f9; refine rn trivial ?_)
  refine QO (k:=0) (c:=c) (Qos c most hm) rfl rfl ?_
  rintro _ c1 ⟨s,rfl,hs,hi⟩
  refine rn trivial ?_
  exact ⟨_,rfl,rfl,QaE _,rfl,⟨s.k,rfl,hs.1,hi⟩,_,rfl⟩
end
section
attribute [local go_sem] cb cc
structure DLg (x:Lg):Prop where
  ok:lgB x = true
  len:x.es.length<=4096
  end_:x.f + x.es.length<=4097
theorem DLg.lsn {x:Lg} (h:DLg x) (i:Nat) (hi:i < x.es.length):1<=(x.es.getD i E0).lsn/\(x.es.getD i E0).lsn<=1000000000:=by
  have h1:=Qmu h.ok i hi
  have h2:=QaC h.ok
  simp only [Lg.hd] at h2
  have h3:=h.end_
  rw [h1.1]
  omega
end
section
attribute [local go_sem] cb cc Lg.c
theorem QCd (c:C) (n:Int):VCalls prog 20 [.ptr 0 0,.int .i64 n] [cb c] (CX fun r=>∃ z:Int,r = .int .i64 z):=by
  by_cases h0:n < 1
  · refine dd Tryz.func20 ?_
    have ha:=c.ha
    have hl:=c.hl
    simp (config:={ maxSteps:=2000000 }) (implicitDefEqProofs:=false) (disch:=first | omega | assumption | (simp only []; done) | fail) only [go_sem,Nat.reduceAdd,Int.reduceAdd,Tryz.f20,cb,cc]
    refine QdJ (by kernel_rfl) (by kernel_rfl) ?_
    by_cases a:c.at_ < c.l.length
    · simp (config:={ maxSteps:=2000000 }) (implicitDefEqProofs:=false) (disch:=first | omega | assumption | (simp only []; done) | fail) only [go_sem,↓reduceIte,reduceCtorEq,Nat.reduceAdd,Nat.reduceBEq,Int.reduceAdd,Int.reduceBEq,h0]
      exact ⟨_,rfl,rfl,rfl,rfl,⟨_,rfl⟩,c,rfl⟩
    · simp (config:={ maxSteps:=2000000 }) (implicitDefEqProofs:=false) (disch:=first | omega | assumption | (simp only []; done) | fail) only [go_sem,↓reduceIte,reduceCtorEq,Nat.reduceAdd,Nat.reduceBEq,Int.reduceAdd,Int.reduceBEq]
      exact ⟨_,rfl,rfl,rfl,rfl,⟨_,rfl⟩,c,rfl⟩
  obtain ⟨m,rfl,h1⟩:∃ m:Nat,n = m/\1<=m:=⟨n.toNat,by omega,by omega⟩
  by_cases hs:m<=256
  · exact (QiW c m h1 hs).mono fun r h' ⟨B,e1,e2,e3,e4,⟨x,e5,_⟩,e6⟩=>⟨B,e1,e2,e3,e4,⟨x,e5⟩,e6⟩
  refine dd Tryz.func20 ?_
  have ha:=c.ha
  have hl:=c.hl
  simp (config:={ maxSteps:=2000000 }) (implicitDefEqProofs:=false) (disch:=first | omega | assumption | (simp only []; done) | fail) only [go_sem,Nat.reduceAdd,Int.reduceAdd,Tryz.f20,cb,cc]
  refine QdJ (by kernel_rfl) (by kernel_rfl) ?_
  by_cases a:c.at_ < c.l.length
  · simp (config:={ maxSteps:=2000000 }) (implicitDefEqProofs:=false) (disch:=first | omega | assumption | (simp only []; done) | fail) only [go_sem,↓reduceIte,reduceCtorEq,Nat.reduceAdd,Nat.reduceBEq,Int.reduceAdd,Int.reduceBEq]
    refine QdJ (by kernel_rfl) (by kernel_rfl) ?_
    have hg:=Qmy c.l c.at_ a
    have hh:(c.l.getD c.at_ 0).toNat < 256:=UInt8.toNat_lt _
    generalize hx:(c.l.getD c.at_ 0).toNat = x at hg hh
    simp (config:={ maxSteps:=2000000 }) (implicitDefEqProofs:=false) (disch:=first | omega | assumption | (simp only [List.length_cons,List.length_nil,Nat.zero_add]; done) | fail) only [go_sem,↓reduceIte,reduceCtorEq,Nat.reduceAdd,Nat.reduceLT,Nat.reduceBEq,Int.reduceLT,Int.reduceAdd,Int.reduceBEq,hg]
    refine QO (k:=0) (c:=⟨c.l,c.at_ + 1,a,hl⟩) (QiW _ 256 (by omega) (by omega)) rfl rfl ?_
    rintro r c' ⟨z,rfl,hz⟩
    simp (config:={ maxSteps:=2000000 }) (implicitDefEqProofs:=false) (disch:=first | omega | assumption | (simp only []; done) | fail) only [go_sem,Nat.reduceBEq,Int.reduceBEq,cb,cc]
    obtain ⟨y,hy,hlt⟩:=QiA (256 * x + z) m h1
    have e:(256 * (x:Int) + (z:Int)) = ((256 * x + z:Nat):Int):=by omega
    refine ⟨_,rfl,rfl,rfl,rfl,⟨y,by rw [e,hy]⟩,c',rfl⟩
  · simp (config:={ maxSteps:=2000000 }) (implicitDefEqProofs:=false) (disch:=first | omega | assumption | (simp only []; done) | fail) only [go_sem,↓reduceIte,reduceCtorEq,Nat.reduceAdd,Nat.reduceBEq,Int.reduceAdd,Int.reduceBEq]
    exact ⟨_,rfl,rfl,rfl,rfl,⟨0,rfl⟩,c,rfl⟩
end
section
attribute [local go_sem] cb cc Lg.c Qjo QpV QpU QpN QpQ
theorem Qns (c:C) (x:Lg) (hl:x.es.length<=4096):VCalls prog 10 [.ptr 0 0,.agg x.c] [cb c] (CX fun r=>∃ y:Lg,r = .agg y.c/\y.es.length<=4096):=by
  refine dk Tryz.func10 ?_
  obtain ⟨f,es,d⟩:=x
  dsimp only at hl
  (unfold Tryz.f10; refine rn trivial ?_)
  refine rn F ?_
  repeat' (first
    | with_reducible exact ⟨⟩
    | (refine sG F ?_ ?_<;>intro hZ)
    | (refine sB F ?_ ?_<;>intro hZ)
    | (refine QO (k:=0) (QW _ 8 (by omega) (by omega)) rfl rfl ?_; rintro _ _ ⟨_,rfl,_⟩; refine rn F ?_)
    | (refine QO (k:=0) (QsH _) rfl rfl ?_; rintro _ _ ⟨_,rfl,_⟩; refine rn F ?_))
  all_goals first
    | exact ⟨_,rfl,rfl,QaE _,rfl,⟨⟨_,_,_⟩,rfl,hl⟩,_,rfl⟩
    | skip
  refine QO (k:=0) (QW _ es.length (by omega) (by omega)) rfl rfl ?_
  rintro _ c2 ⟨k,rfl,hk⟩
  have h0:=gE0 es k hk
  have h1:k * 13 < es.length * 13:=by omega
  have h2:k * 13 + 3 < es.length * 13:=by omega
  have h3:k * 13 + 4 < es.length * 13:=by omega
  have h4:k * 13 + 13<=es.length * 13:=by omega
  have he:=elE es k hk
  have h5:=sE3 es k hk
  have h6:=sE4 es k hk
  have h7:=QyF es k hk
  have h8:=fun e=>@List.length_set _ es k e
  generalize (es.getD k E0).lsn = n at *
  have F:=(And.intro @h0 (And.intro @h1 (And.intro @h2 (And.intro @h3 (And.intro @h4 (And.intro @he (And.intro @h5 (And.intro @h6 (And.intro @h7 @h8)))))))))
  refine rn F ?_
  repeat' (first
    | with_reducible exact ⟨⟩
    | (refine sB F ?_ ?_<;>intro hZ)
    | (refine QO (k:=0) (QW _ 4 (by omega) (by omega)) rfl rfl ?_; rintro _ _ ⟨_,rfl,_⟩; refine rn F ?_)
    | (refine QO (k:=0) (QsH _) rfl rfl ?_; rintro _ _ ⟨_,rfl,_⟩; refine rn F ?_)
    | (refine QO (k:=0) (QoO _ _) rfl rfl ?_; rintro _ _ ⟨_,rfl,_⟩; refine rn F ?_)
    | (refine QO (k:=0) (QCd _ _) rfl rfl ?_; rintro _ _ ⟨_,rfl,_⟩; refine rn F ?_)
    | (refine Qd (id:=10) [0,1,2,3,4,5,6,7,8,9] [⟨[],[],10,[0,1,2,4,5,6,7,8],[11,12]⟩,⟨[],[],13,[11],[]⟩] (by kernel_rfl) (by kernel_rfl) ?_; refine rn F ?_)
    | (refine Qd (id:=12) [0,1,2,3,4,5,6,7,8,9] [⟨[],[],10,[0,1,2,4,5,6,7,8],[11,12]⟩,⟨[],[],13,[11],[]⟩] (by kernel_rfl) (by kernel_rfl) ?_; refine rn F ?_)
    | (refine Qd (id:=14) [0,1,2,3,4,5,6,7,8] [⟨[],[],9,[0,1,2,4,5,6,7],[10]⟩,⟨[],[],11,[],[]⟩] (by kernel_rfl) (by kernel_rfl) ?_; refine rn F ?_))
  all_goals first
    | exact ⟨_,rfl,rfl,QaE _,rfl,⟨⟨_,_,_⟩,rfl,hl⟩,_,rfl⟩
    | exact ⟨_,rfl,rfl,QaE _,rfl,⟨⟨_,_,_⟩,rfl,by rw [List.length_set]; exact hl⟩,_,rfl⟩
    | skip
theorem QzH:VCalls prog 30 [] [] (Ret (.agg Lg1.c)):=by
  refine dk Tryz.func30 ?_
  (unfold Tryz.f30; refine rn trivial ?_)
  rfl
def e07:E:=⟨0,1,1,0,0,0,Ch0,[]⟩
def QDq:Lg:=⟨1,[⟨1,1,1,0,0,0,Ch0,[]⟩],0⟩
def QAJ:Lg:=⟨1,[⟨1,1,1,0,1,0,Ch0,[]⟩],0⟩
theorem QwW:VCalls prog 7 [] [] (Ret (.bool true)):=by
  refine dd Tryz.func7 ?_
  have c1:=QwX Lg1 (by decide) e07
  rw [show Qd2 Lg1 e07 = (QDq,1,0) from rfl] at c1
  have c2:=Qjb QDq (by decide)
  rw [show QxF QDq = 0 by decide] at c2
  have c3:=Qjb QAJ (by decide)
  rw [show QxF QAJ = 26 by decide] at c3
  have c4:=QzH
  unfold Lg.c QCT at c1
  unfold Lg.c at c2 c3
  dsimp only [QDq,QAJ,Lg.c] at c1 c2 c3
  obtain ⟨es,hes⟩:∃ es:List E,es = [⟨1,1,1,0,0,0,Ch0,[]⟩]:=⟨_,rfl⟩
  obtain ⟨es2,hes2⟩:∃ es2:List E,es2 = [⟨1,1,1,0,1,0,Ch0,[]⟩]:=⟨_,rfl⟩
  rw [<- hes] at c1 c2
  rw [<- hes2] at c3
  have hl:es.length = 1:=by rw [hes]; rfl
  have hl2:es2.length = 1:=by rw [hes2]; rfl
  have hcl:(cells encE es).length = 13:=by rw [hes]; rfl
  have hset:(cells encE es).set 4 (.pv (.lit (.int .i64 1))) = cells encE es2:=by rw [hes,hes2]; rfl
  clear hes hes2
  (unfold Tryz.f7; refine rn trivial ?_)
  have F:=(And.intro @hl (And.intro @hl2 (And.intro @hcl @hset)))
  refine rn F ?_
  repeat' (first
    | with_reducible exact ⟨⟩
    | refine vp F (c4) ?_
    | refine vp F (c1) ?_
    | refine vp F (c2) ?_
    | refine vl F (c3) ?_)
end
section
attribute [local go_sem] cb cc Lg.c
def Qtm:Enc Lg:=⟨3,fun x=>[.lit (.int .i64 x.f),.sl (fz encE x.es),.lit (.int .i64 x.d)],by decide,fun _=>rfl⟩
theorem QE4 (l:List Lg) (i:Nat) (h:i < l.length):((cells Qtm l).drop (i * 3)).take 3 = (l.getD i Lg0).c:=by rw [Qn l i h]; exact QfZ Qtm l i h
theorem Qpr (l:List UInt8) (hl:l.length<=9223372036854775807) (raw:Lg) (hr:raw.es.length<=9223372036854775807):VCalls prog 3 [.pv (.sl (fz Qe7 l)),.agg raw.c] [] (Ret (.bool true)):=by
  refine dd Tryz.func3 ?_
  have c0:=QwW
  (unfold Tryz.f3; refine rn trivial ?_)
  by_cases h30:30 < (raw.es.length:Int)
  · skip
    have F:=@h30
    refine rn F ?_
    repeat' (first
      | with_reducible exact ⟨⟩
      | refine vp F (c0) ?_)
    all_goals rfl
  have F:=@h30
  refine rn F ?_
  repeat' (first
    | with_reducible exact ⟨⟩
    | refine vp F (c0) ?_)
  refine Qyl (most:=400) (by omega) (by omega) hl fun c=>?_
  refine rn trivial ?_
  refine QO (k:=1) (c:=c) (QsC c 30 (by omega)) rfl rfl ?_
  rintro _ c1 ⟨k,rfl,hk,hv,hf⟩
  obtain ⟨pg,nx,x,pl,lk,tx,ix,la⟩:=k
  dsimp only at hv hf
  have hxl:x.es.length<=4096:=hk.1
  refine rn trivial ?_
  refine QO (k:=1) (Qns c1 x hxl) rfl rfl ?_
  rintro _ c2 ⟨y,rfl,hyl⟩
  have F:=trivial
  refine rn F ?_
  repeat' (first
    | with_reducible exact ⟨⟩
    | (refine QO (k:=1) (Qns _ y hyl) rfl rfl ?_; rintro _ _ ⟨_,rfl,_⟩; refine rn F ?_)
    | (refine QbT (id:=6) [[],[],[],[],[2,3],[],[0,1,2,3,4,5],[0,1,2,3,4,5,6],[]] [0,1,2,3,5,8] [⟨[],[],4,[0,1,5,8],[]⟩,⟨[],[],6,[8],[7]⟩] (by kernel_rfl) (by kernel_rfl) (by kernel_rfl) ?_; refine rn F ?_))
  rename_i c3 z hzl
  have hrl:raw.es.length<=4096:=by omega
  obtain ⟨ls,hL,h4,hle⟩:∃ ls:List Lg,([.int .i64 x.f,.pv (.sl (fz encE x.es)),.int .i64 x.d,.int .i64 y.f,.pv (.sl (fz encE y.es)),.int .i64 y.d,.int .i64 z.f,.pv (.sl (fz encE z.es)),.int .i64 z.d,.int .i64 raw.f,.pv (.sl (fz encE raw.es)),.int .i64 raw.d]:List DV) = cells Qtm ls/\ls.length = 4/\∀ t ∈ ls,t.es.length<=4096:=
    ⟨[x,y,z,raw],rfl,rfl,by
      simp only [List.forall_mem_cons]
      exact ⟨hxl,hyl,hzl,hrl,fun _ h=>by cases h⟩⟩
  rw [hL]
  have hcl:(cells Qtm ls).length = 12:=by rw [QG,h4]; rfl
  refine Qh (fun s:To 4=>⟨48,0,[(38,.int .i64 s.i),(37,.int .i64 4),(36,.own 0 3 0 4)],[⟨25,true,cells Qtm ls⟩]⟩) (fun s=>4 - s.i) ⟨0,Nat.zero_le _⟩ (gc [4]) ?_
  rintro ⟨i,hi⟩
  dsimp only
  by_cases hin:i < 4
  · have hb:i * 3 + 3<=12:=by omega
    have hg:=QE4 ls i (by omega)
    have hzl:(ls.getD i Lg0).es.length<=4096:=by rw [Qn ls i (by omega)]; exact hle _ (List.getElem_mem _)
    generalize ls.getD i Lg0 = w at *
    have r1:=Qjb w (by omega)
    have r2:=QBY w (by omega)
    rw [<- QCL] at r2
    have F:=(And.intro @hcl (And.intro @hb @hg))
    refine rn F ?_
    repeat' (first
      | with_reducible exact ⟨⟩
      | refine vp F (r1) ?_
      | refine vp F (r2) ?_
      | (refine Qd (id:=9) [0,2] [⟨[],[],1,[2],[]⟩,⟨[],[],3,[0],[4]⟩] (by kernel_rfl) (by kernel_rfl) ?_; refine rn F ?_))
    exact ⟨⟨i + 1,by omega⟩,by dsimp only; omega,(gc [0])⟩
  · skip
    have F:=trivial
    (refine rn F ?_; try with_reducible exact ⟨⟩)
end
section
open Go.ChangeShapes Go.WideShapes
def eK:List PS:=[.int .i64,.int .i64,.int .i64,.int .i64,.int .i64,.int .i64,.int .i64,.int .i64,.bool,.str,.bool,.str,.str]
theorem QDG (c:List PV) (h:QEd eK c):∃ e:E,c = encE.enc e:=by
  obtain ⟨g1,g2⟩:=h
  obtain ⟨d0,e0,n0,rfl,_⟩:=g2 0 _ rfl
  obtain ⟨d1,e1,n1,rfl,_⟩:=g2 1 _ rfl
  obtain ⟨d2,e2,n2,rfl,_⟩:=g2 2 _ rfl
  obtain ⟨d3,e3,n3,rfl,_⟩:=g2 3 _ rfl
  obtain ⟨d4,e4,n4,rfl,_⟩:=g2 4 _ rfl
  obtain ⟨d5,e5,n5,rfl,_⟩:=g2 5 _ rfl
  obtain ⟨d6,e6,n6,rfl,_⟩:=g2 6 _ rfl
  obtain ⟨d7,e7,n7,rfl,_⟩:=g2 7 _ rfl
  obtain ⟨d8,e8,n8,rfl⟩:=g2 8 _ rfl
  obtain ⟨d9,e9,n9,rfl,_⟩:=g2 9 _ rfl
  obtain ⟨d10,e10,n10,rfl⟩:=g2 10 _ rfl
  obtain ⟨d11,e11,n11,rfl,_⟩:=g2 11 _ rfl
  obtain ⟨d12,e12,n12,rfl,_⟩:=g2 12 _ rfl
  match c,g1 with
  | [a0,a1,a2,a3,a4,a5,a6,a7,a8,a9,a10,a11,a12],_ =>
    simp at e0 e1 e2 e3 e4 e5 e6 e7 e8 e9 e10 e11 e12
    subst e0 e1 e2 e3 e4 e5 e6 e7 e8 e9 e10 e11 e12
    exact ⟨⟨n0,n1,n2,n3,n4,n5,⟨n6,n7,⟨n8,n9⟩,⟨n10,n11⟩⟩,n12⟩,rfl⟩
theorem QBJ (xs:List (List PV)) (h:∀ c ∈ xs,QEd eK c):∃ l:List E,xs = fz encE l/\l.length = xs.length:=by
  induction xs with
  | nil=>exact ⟨[],rfl,rfl⟩
  | cons c r ih =>
    obtain ⟨l,h1,h2⟩:=ih fun c hc=>h c (List.mem_cons_of_mem _ hc)
    obtain ⟨e,rfl⟩:=QDG c (h c (List.mem_cons_self))
    exact ⟨e :: l,by rw [h1]; rfl,by simp [h2]⟩
theorem QAD {H:Type} {enc:TypeId × Value->H} {r0:Reach} {b0:Nat} {W:World} {v:Value} {d:DataW H} {ps:List MemPlace} (hval:Value.okWide prog W r0 b0 25 v) (h:DataW.Trod enc prog W 0 (fun _=>true) true 25 v d ps) :
    ∃ t:Lg,RelD W β0 [] (.agg t.c) v/\t.es.length<=maxLen:=by
  obtain ⟨l,h1,h2,h3⟩:=QpC (n:=8) (r:=[.pl (.int .i64),.rows eK,.pl (.int .i64)]) Tryz.underlying25 (by kernel_rfl) hval h
  obtain ⟨d0,e0,n0,rfl,_⟩:=h3 0 _ rfl
  obtain ⟨d1,e1,x1,rfl,l1,r1⟩:=h3 1 _ rfl
  obtain ⟨d2,e2,n2,rfl,_⟩:=h3 2 _ rfl
  obtain ⟨a,rfl,ha⟩:=QBJ x1 r1
  match l,h2 with
  | [a0,a1,a2],_ =>
    simp at e0 e1 e2
    subst e0 e1 e2
    exact ⟨⟨n0,a,n2⟩,h1,by dsimp only; omega⟩
end
end Go.Proofs.YtepcgifhpjapkaaGreat

