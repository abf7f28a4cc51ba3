/-
  Contracts of functions and plain laws. No condition.
-/
import Derived.Test.YtepcgifhpjapkaaGreatP1
import Derived.Test.YtepcgifhpjapkaaGreatV3
set_option linter.unusedSimpArgs false
set_option linter.unusedVariables false
set_option maxRecDepth 100000
set_option maxHeartbeats 8000000
namespace Go.Proofs.YtepcgifhpjapkaaGreat
open Go.V Go
open Tryz (prog)
section
attribute [local go_sem] Ce.d Ch.d E.d Qjo QpV QpU QpN QpQ Qfb Qw8 Qw7 Qw6 E.q Nat.not_lt_zero QaU Qay
def Qlq (hp:Qa) (kp:Nat) (P:List E) (p:DV):Prop:=(P = []/\p = .pv (.slc []))\/(p = .own kp 13 0 P.length/\kp < hp.length/\hp[kp]? = some ⟨60,true,cells encE P⟩)
def RunOk (hp:Qa) (k kp:Nat) (la:Int) (ea ab en:Bool) (P:List E):Prop:=k < hp.length/\∃ p,Qb hp k = some (rnC la ea ab en p)/\Qlq hp kp P p
def QeZ (e:E) (ea ab:Bool) (P:List E):Bool:=(!ab || decide (e.kind = 5)) && (!decide (e.kind = 5) || (ab || ea) && P.isEmpty)
def nP (e:E) (P:List E):List E:=if e.kind = 1 then P ++ [e] else P
def nab (e:E) (ab:Bool):Bool:=ab || decide (e.kind = 4)
def nen (e:E) (en:Bool):Bool:=en || decide (e.kind = 3) || decide (e.kind = 5)
def Left (hp:Qa) (k kp:Nat) (la:Int) (ea ab en:Bool) (P:List E) (h':Qa):Prop:=FrH hp h' (fun j=>j = k\/j = kp)/\∃ kp',(kp' = kp\/hp.length<=kp')/\RunOk h' k kp' la ea ab en P
theorem Qny {hp:Qa} {k kp:Nat} {la:Int} {ea ab en:Bool} {P:List E} {p:DV} (hkk:k < hp.length) (hkc:Qb hp k = some (rnC la ea ab en p)) (hp0:Qlq hp kp P p):Left hp k kp la ea ab en P hp:=⟨FrH.refl _ _,kp,.inl rfl,hkk,p,hkc,hp0⟩
theorem QiZ {hp:Qa} {k kp:Nat} {la:Int} {ea ab en ab' en':Bool} {P:List E} {p:DV} (hkk:k < hp.length) (hkc:Qb hp k = some (rnC la ea ab en p)) (hp0:Qlq hp kp P p) (h1:k ≠ kp):Left hp k kp la ea ab' en' P (Qj hp k (rnC la ea ab' en' p)):=by
  refine ⟨(FrH.refl _ _).set (.inl rfl) _,kp,.inl rfl,by rw [Qal]; exact hkk,p,by rw [Qav,hkc]; rfl,?_⟩
  rcases hp0 with h | ⟨e1,e2,e3⟩
  · exact .inl h
  · exact .inr ⟨e1,by rw [Qal]; exact e2,by rw [Qbv h1]; exact e3⟩
theorem QzF {hp:Qa} {k kp:Nat} {la:Int} {ea ab en:Bool} {P:List E} {e:E} {x B:Blk} {p:DV} (hkk:k < hp.length) (hkc:Qb hp k = some (rnC la ea ab en p)) (h1:k ≠ kp) (hkp:kp < hp.length) :
    Left hp k kp la ea ab en (P ++ [e]) (Qj (List.set hp kp B) k (rnC la ea ab en (.own (hp.length + 1) 13 0 (P.length + 1))) ++ [x] ++ [⟨60,true,cells encE (P ++ [e])⟩]):=by
  have hl:(Qj (List.set hp kp B) k (rnC la ea ab en (.own (hp.length + 1) 13 0 (P.length + 1)))).length = hp.length:=by rw [Qal,Qv0]
  refine ⟨⟨by simp [hl],fun j hj ha=>?_⟩,hp.length + 1,.inr (by omega),by simp [hl]; omega,.own (hp.length + 1) 13 0 (P.length + 1),?_,.inr ⟨by simp,by simp [hl],?_⟩⟩
  · rw [List.getElem?_append_left (by simp [hl]; omega),List.getElem?_append_left (by omega),Qbv (fun h=>ha (.inl h.symm)),Qst (fun h=>ha (.inr h.symm))]
  · rw [QR (by simp [hl]; omega),QR (by omega),Qav,Qnw (Ne.symm h1),hkc]; rfl
  · rw [Qi2 (by simp [hl])]; simp [hl]
theorem QB9 (c:Qjq) (hp:Qa) (g:MapsD) (b kb kc bt bp bu:Nat) (f:Int) (e:E) (L:List (Int × DV)) (hkb:kb < hp.length) (hb:Qb hp kb = some e.d) (hk:kc < hp.length) (hc:Qb hp kc = some (ckC f bt bp bu)) (hg:(bt,Qbp kI L) ∈ g)
    (k kp:Nat) (la:Int) (ea ab en:Bool) (P:List E) (hPl:P.length<=10000) (hkk:k < hp.length) (hkc:Qb hp k = some (rnC la ea ab en (.own kp 13 0 P.length))) (hkp:kp < hp.length) (hpb:hp[kp]? = some ⟨60,true,cells encE P⟩) (hn:QdA L e.tx = some (.ptr k 0))
    (h1:k ≠ kp) (h2:k ≠ kc) (h3:k ≠ kb) (h4:kp ≠ kc) (h5:kp ≠ kb) (hk2:e.kind ≠ 2) :
    VWpG prog (Qa2 c) (Qct 3 (Qcz Tryz.f35)) (QcA prog [.tmp 4] fun r h' g'=>∃ b,r = .bool b/\b = QeZ e ea ab P/\(b = true->g' = g/\Left hp k kp la ea (nab e ab) (nen e en) (nP e P) h')) ⟨97,b,[(3,.ptr kb 0),(0,.ptr kc 0)],hp⟩ g:=by
  have hpc:Qb hp kp = some (cells encE P):=Qdx hpb
  have hkc0:=hkc
  have hp0:Qlq hp kp P (.own kp 13 0 P.length):=.inr ⟨rfl,hkp,hpb⟩
  have m1:(P.length + 1) * 128<=140737488355328:=by omega
  unfold ckC at hc
  unfold rnC at hkc
  unfold E.d at hb
  have hkind:e.kind = 1\/e.kind = 3\/e.kind = 4\/e.kind = 5\/(e.kind ≠ 1/\e.kind ≠ 3/\e.kind ≠ 4/\e.kind ≠ 5):=by omega
  have fl:e.kind = 1->QeZ e ea ab P = !ab/\nP e P = P ++ [e]/\nab e ab = ab/\nen e en = en:=fun h=>by simp [QeZ,nP,nab,nen,h]
  have fl3:e.kind = 3->QeZ e ea ab P = !ab/\nP e P = P/\nab e ab = ab/\nen e en = true:=fun h=>by simp [QeZ,nP,nab,nen,h]
  have fl4:e.kind = 4->QeZ e ea ab P = !ab/\nP e P = P/\nab e ab = true/\nen e en = en:=fun h=>by simp [QeZ,nP,nab,nen,h]
  have fl5:e.kind = 5->QeZ e ea ab P = ((ab || ea) && P.isEmpty)/\nP e P = P/\nab e ab = ab/\nen e en = true:=fun h=>by simp [QeZ,nP,nab,nen,h]
  have fl0:(e.kind ≠ 1/\e.kind ≠ 3/\e.kind ≠ 4/\e.kind ≠ 5)->QeZ e ea ab P = !ab/\nP e P = P/\nab e ab = ab/\nen e en = en:=fun h=>by simp [QeZ,nP,nab,nen,h]
  have hle:((P.length:Int) == 0) = P.isEmpty:=by cases P<;>simp; omega
  show VWpG prog (Qa2 c) (.seq _ _) _ _ _
  refine VWpG.seq ?_
  refine VWpG.drawn (k:=6) (f:=6) (Qc c) (by kernel_rfl) (by kernel_rfl) (by kernel_rfl) (by kernel_rfl) rfl ?_; refine QX (by kernel_rfl) ?_
  refine rn (And.intro @hk (And.intro @hc (And.intro @hb @hkb))) ?_
  refine Qbl (zv:=.pointer none) (L:=L) (k:=e.tx) rfl rfl um1 Qjp (Qau z1) (QaR rfl) rfl hg (Qan rfl) ?_
  rw [hn]
  refine rn trivial ?_
  refine VWpG.plain (Qc c) ?_
  rcases hkind with hq | hq | hq | hq | ⟨q1,q3,q4,q5⟩
  · obtain ⟨f1,f2,f3,f4⟩:=fl hq
    rw [f1,f2,f3,f4]
    cases ab
    · skip
      have F:=(And.intro @hk (And.intro @hc (And.intro @hb (And.intro @hkb (And.intro @hkk (And.intro @hkc (And.intro @hkp (And.intro @hpb (And.intro @hpc (And.intro @h1 (And.intro @h2 (And.intro @h3 (And.intro @h4 (And.intro @h5 (And.intro @hk2 (And.intro @m1 (And.intro @h1.symm (And.intro @h2.symm (And.intro @h3.symm (And.intro @h4.symm (And.intro @h5.symm ((eq_true hq)))))))))))))))))))))))
      refine rn F ?_
      repeat' (first
        | with_reducible exact ⟨⟩
        | (refine Qd (id:=10) [0,1,2,3,4,5] [⟨[6],[6],7,[0,1,2,3,5],[8,9]⟩,⟨[],[],10,[8],[]⟩] (by kernel_rfl) (by kernel_rfl) ?_; refine rn F ?_))
      exact ⟨_,rfl,rfl,fun h=>QzF hkk hkc0 h1 hkp⟩
    · skip
      have F:=(And.intro @hk (And.intro @hc (And.intro @hb (And.intro @hkb (And.intro @hkk (And.intro @hkc (And.intro @hkp (And.intro @hpb (And.intro @hpc (And.intro @h1 (And.intro @h2 (And.intro @h3 (And.intro @h4 (And.intro @h5 (And.intro @hk2 (And.intro @m1 (And.intro @h1.symm (And.intro @h2.symm (And.intro @h3.symm (And.intro @h4.symm (And.intro @h5.symm ((eq_true hq)))))))))))))))))))))))
      refine rn F ?_
      exact ⟨_,rfl,rfl,fun h=>by cases h⟩
  · obtain ⟨f1,f2,f3,f4⟩:=fl3 hq
    rw [f1,f2,f3,f4]
    cases ab
    · skip
      have F:=(And.intro @hk (And.intro @hc (And.intro @hb (And.intro @hkb (And.intro @hkk (And.intro @hkc (And.intro @hkp (And.intro @hpb (And.intro @hpc (And.intro @h1 (And.intro @h2 (And.intro @h3 (And.intro @h4 (And.intro @h5 (And.intro @hk2 (And.intro @m1 (And.intro @h1.symm (And.intro @h2.symm (And.intro @h3.symm (And.intro @h4.symm (And.intro @h5.symm (And.intro (eq_true hq) @hq))))))))))))))))))))))
      refine rn F ?_
      exact ⟨_,rfl,rfl,fun h=>QiZ hkk hkc0 hp0 h1⟩
    · skip
      have F:=(And.intro @hk (And.intro @hc (And.intro @hb (And.intro @hkb (And.intro @hkk (And.intro @hkc (And.intro @hkp (And.intro @hpb (And.intro @hpc (And.intro @h1 (And.intro @h2 (And.intro @h3 (And.intro @h4 (And.intro @h5 (And.intro @hk2 (And.intro @m1 (And.intro @h1.symm (And.intro @h2.symm (And.intro @h3.symm (And.intro @h4.symm (And.intro @h5.symm (And.intro (eq_true hq) @hq))))))))))))))))))))))
      refine rn F ?_
      exact ⟨_,rfl,rfl,fun h=>by cases h⟩
  · obtain ⟨f1,f2,f3,f4⟩:=fl4 hq
    rw [f1,f2,f3,f4]
    cases ab
    · skip
      have F:=(And.intro @hk (And.intro @hc (And.intro @hb (And.intro @hkb (And.intro @hkk (And.intro @hkc (And.intro @hkp (And.intro @hpb (And.intro @hpc (And.intro @h1 (And.intro @h2 (And.intro @h3 (And.intro @h4 (And.intro @h5 (And.intro @hk2 (And.intro @m1 (And.intro @h1.symm (And.intro @h2.symm (And.intro @h3.symm (And.intro @h4.symm (And.intro @h5.symm (And.intro (eq_true hq) @hq))))))))))))))))))))))
      refine rn F ?_
      exact ⟨_,rfl,rfl,fun h=>QiZ hkk hkc0 hp0 h1⟩
    · skip
      have F:=(And.intro @hk (And.intro @hc (And.intro @hb (And.intro @hkb (And.intro @hkk (And.intro @hkc (And.intro @hkp (And.intro @hpb (And.intro @hpc (And.intro @h1 (And.intro @h2 (And.intro @h3 (And.intro @h4 (And.intro @h5 (And.intro @hk2 (And.intro @m1 (And.intro @h1.symm (And.intro @h2.symm (And.intro @h3.symm (And.intro @h4.symm (And.intro @h5.symm (And.intro (eq_true hq) @hq))))))))))))))))))))))
      refine rn F ?_
      exact ⟨_,rfl,rfl,fun h=>by cases h⟩
  · obtain ⟨f1,f2,f3,f4⟩:=fl5 hq
    rw [f1,f2,f3,f4]
    cases ab
    · cases ea
      · skip
        have F:=(And.intro @hk (And.intro @hc (And.intro @hb (And.intro @hkb (And.intro @hkk (And.intro @hkc (And.intro @hkp (And.intro @hpb (And.intro @hpc (And.intro @h1 (And.intro @h2 (And.intro @h3 (And.intro @h4 (And.intro @h5 (And.intro @hk2 (And.intro @m1 (And.intro @h1.symm (And.intro @h2.symm (And.intro @h3.symm (And.intro @h4.symm (And.intro @h5.symm (And.intro @hq @hle))))))))))))))))))))))
        refine rn F ?_
        exact ⟨_,rfl,rfl,fun h=>by cases h⟩
      · skip
        have F:=(And.intro @hk (And.intro @hc (And.intro @hb (And.intro @hkb (And.intro @hkk (And.intro @hkc (And.intro @hkp (And.intro @hpb (And.intro @hpc (And.intro @h1 (And.intro @h2 (And.intro @h3 (And.intro @h4 (And.intro @h5 (And.intro @hk2 (And.intro @m1 (And.intro @h1.symm (And.intro @h2.symm (And.intro @h3.symm (And.intro @h4.symm (And.intro @h5.symm (And.intro @hq @hle))))))))))))))))))))))
        refine rn F ?_
        exact ⟨_,rfl,rfl,fun h=>QiZ hkk hkc0 hp0 h1⟩
    · skip
      have F:=(And.intro @hk (And.intro @hc (And.intro @hb (And.intro @hkb (And.intro @hkk (And.intro @hkc (And.intro @hkp (And.intro @hpb (And.intro @hpc (And.intro @h1 (And.intro @h2 (And.intro @h3 (And.intro @h4 (And.intro @h5 (And.intro @hk2 (And.intro @m1 (And.intro @h1.symm (And.intro @h2.symm (And.intro @h3.symm (And.intro @h4.symm (And.intro @h5.symm (And.intro @hq @hle))))))))))))))))))))))
      refine rn F ?_
      exact ⟨_,rfl,rfl,fun h=>QiZ hkk hkc0 hp0 h1⟩
  · obtain ⟨f1,f2,f3,f4⟩:=fl0 ⟨q1,q3,q4,q5⟩
    rw [f1,f2,f3,f4]
    cases ab
    · skip
      have F:=(And.intro @hk (And.intro @hc (And.intro @hb (And.intro @hkb (And.intro @hkk (And.intro @hkc (And.intro @hkp (And.intro @hpb (And.intro @hpc (And.intro @h1 (And.intro @h2 (And.intro @h3 (And.intro @h4 (And.intro @h5 (And.intro @hk2 (And.intro @m1 (And.intro @h1.symm (And.intro @h2.symm (And.intro @h3.symm (And.intro @h4.symm (And.intro @h5.symm (And.intro @q1 (And.intro @q3 (And.intro @q4 @q5))))))))))))))))))))))))
      refine rn F ?_
      exact ⟨_,rfl,rfl,fun h=>Qny hkk hkc0 hp0⟩
    · skip
      have F:=(And.intro @hk (And.intro @hc (And.intro @hb (And.intro @hkb (And.intro @hkk (And.intro @hkc (And.intro @hkp (And.intro @hpb (And.intro @hpc (And.intro @h1 (And.intro @h2 (And.intro @h3 (And.intro @h4 (And.intro @h5 (And.intro @hk2 (And.intro @m1 (And.intro @h1.symm (And.intro @h2.symm (And.intro @h3.symm (And.intro @h4.symm (And.intro @h5.symm (And.intro @q1 (And.intro @q3 (And.intro @q4 @q5))))))))))))))))))))))))
      refine rn F ?_
      exact ⟨_,rfl,rfl,fun h=>by cases h⟩
end
section
attribute [local go_sem] Ce.d Ch.d E.d Qjo QpV QpU QpN QpQ Qfb Qw8 Qw7 Qw6 E.q Nat.not_lt_zero QaU Qay
theorem QfS {hp:Qa} {k kp:Nat} {la:Int} {ea ab en ab' en':Bool} (hkk:k < hp.length) (hkc:Qb hp k = some (rnC la ea ab en (.pv (.slc [])))):Left hp k kp la ea ab' en' [] (Qj hp k (rnC la ea ab' en' (.pv (.slc [])))):=
  ⟨(FrH.refl _ _).set (.inl rfl) _,kp,.inl rfl,by rw [Qal]; exact hkk,.pv (.slc []),by rw [Qav,hkc]; rfl,.inl ⟨rfl,rfl⟩⟩
theorem Qv5 {hp:Qa} {k kp:Nat} {la:Int} {ea ab en:Bool} {e:E} {x:Blk} {p:DV} (hkk:k < hp.length) (hkc:Qb hp k = some (rnC la ea ab en p)) :
    Left hp k kp la ea ab en [e] (Qj hp k (rnC la ea ab en (.own (hp.length + 1) 13 0 1)) ++ [x] ++ [⟨60,true,cells encE [e]⟩]):=by
  have hl:(Qj hp k (rnC la ea ab en (.own (hp.length + 1) 13 0 1))).length = hp.length:=by rw [Qal]
  refine ⟨⟨by simp [hl],fun j hj ha=>?_⟩,hp.length + 1,.inr (by omega),by simp [hl]; omega,.own (hp.length + 1) 13 0 1,?_,.inr ⟨rfl,by simp [hl],?_⟩⟩
  · rw [List.getElem?_append_left (by simp [hl]; omega),List.getElem?_append_left (by omega),Qbv (fun h=>ha (.inl h.symm))]
  · rw [QR (by simp [hl]; omega),QR (by omega),Qav,hkc]; rfl
  · rw [Qi2 (by simp [hl])]; simp [hl]
theorem QCa (c:Qjq) (hp:Qa) (g:MapsD) (b kb kc bt bp bu:Nat) (f:Int) (e:E) (L:List (Int × DV)) (hkb:kb < hp.length) (hb:Qb hp kb = some e.d) (hk:kc < hp.length) (hc:Qb hp kc = some (ckC f bt bp bu)) (hg:(bt,Qbp kI L) ∈ g)
    (k kp:Nat) (la:Int) (ea ab en:Bool) (hkk:k < hp.length) (hkc:Qb hp k = some (rnC la ea ab en (.pv (.slc [])))) (hn:QdA L e.tx = some (.ptr k 0))
    (h2:k ≠ kc) (h3:k ≠ kb) (hk2:e.kind ≠ 2) :
    VWpG prog (Qa2 c) (Qct 3 (Qcz Tryz.f35)) (QcA prog [.tmp 4] fun r h' g'=>∃ b,r = .bool b/\b = QeZ e ea ab []/\(b = true->g' = g/\Left hp k kp la ea (nab e ab) (nen e en) (nP e []) h')) ⟨97,b,[(3,.ptr kb 0),(0,.ptr kc 0)],hp⟩ g:=by
  have hkc0:=hkc
  have hp0:Qlq hp kp [] (.pv (.slc [])):=.inl ⟨rfl,rfl⟩
  unfold ckC at hc
  unfold rnC at hkc
  unfold E.d at hb
  have hkind:e.kind = 1\/e.kind = 3\/e.kind = 4\/e.kind = 5\/(e.kind ≠ 1/\e.kind ≠ 3/\e.kind ≠ 4/\e.kind ≠ 5):=by omega
  have fl:e.kind = 1->QeZ e ea ab [] = !ab/\nP e [] = [e]/\nab e ab = ab/\nen e en = en:=fun h=>by simp [QeZ,nP,nab,nen,h]
  have fl3:e.kind = 3->QeZ e ea ab [] = !ab/\nP e [] = []/\nab e ab = ab/\nen e en = true:=fun h=>by simp [QeZ,nP,nab,nen,h]
  have fl4:e.kind = 4->QeZ e ea ab [] = !ab/\nP e [] = []/\nab e ab = true/\nen e en = en:=fun h=>by simp [QeZ,nP,nab,nen,h]
  have fl5:e.kind = 5->QeZ e ea ab [] = ((ab || ea) && true)/\nP e [] = []/\nab e ab = ab/\nen e en = true:=fun h=>by simp [QeZ,nP,nab,nen,h]
  have fl0:(e.kind ≠ 1/\e.kind ≠ 3/\e.kind ≠ 4/\e.kind ≠ 5)->QeZ e ea ab [] = !ab/\nP e [] = []/\nab e ab = ab/\nen e en = en:=fun h=>by simp [QeZ,nP,nab,nen,h]
  have hle:(((0:Nat):Int) == 0) = true:=rfl
  show VWpG prog (Qa2 c) (.seq _ _) _ _ _
  refine VWpG.seq ?_
  refine VWpG.drawn (k:=6) (f:=6) (Qc c) (by kernel_rfl) (by kernel_rfl) (by kernel_rfl) (by kernel_rfl) rfl ?_; refine QX (by kernel_rfl) ?_
  refine rn (And.intro @hk (And.intro @hc (And.intro @hb @hkb))) ?_
  refine Qbl (zv:=.pointer none) (L:=L) (k:=e.tx) rfl rfl um1 Qjp (Qau z1) (QaR rfl) rfl hg (Qan rfl) ?_
  rw [hn]
  refine rn trivial ?_
  refine VWpG.plain (Qc c) ?_
  rcases hkind with hq | hq | hq | hq | ⟨q1,q3,q4,q5⟩
  · obtain ⟨f1,f2,f3,f4⟩:=fl hq
    rw [f1,f2,f3,f4]
    cases ab
    · skip
      have F:=(And.intro @hk (And.intro @hc (And.intro @hb (And.intro @hkb (And.intro @hkk (And.intro @hkc (And.intro @h2 (And.intro @h3 (And.intro @hk2 (And.intro @h2.symm (And.intro @h3.symm ((eq_true hq)))))))))))))
      refine rn F ?_
      repeat' (first
        | with_reducible exact ⟨⟩
        | (refine Qd (id:=10) [0,1,2,3,4,5] [⟨[6],[6],7,[0,1,2,3,5],[8,9]⟩,⟨[],[],10,[8],[]⟩] (by kernel_rfl) (by kernel_rfl) ?_; refine rn F ?_))
      exact ⟨_,rfl,rfl,fun h=>Qv5 hkk hkc0⟩
    · skip
      have F:=(And.intro @hk (And.intro @hc (And.intro @hb (And.intro @hkb (And.intro @hkk (And.intro @hkc (And.intro @h2 (And.intro @h3 (And.intro @hk2 (And.intro @h2.symm (And.intro @h3.symm ((eq_true hq)))))))))))))
      refine rn F ?_
      exact ⟨_,rfl,rfl,fun h=>by cases h⟩
  · obtain ⟨f1,f2,f3,f4⟩:=fl3 hq
    rw [f1,f2,f3,f4]
    cases ab
    · skip
      have F:=(And.intro @hk (And.intro @hc (And.intro @hb (And.intro @hkb (And.intro @hkk (And.intro @hkc (And.intro @h2 (And.intro @h3 (And.intro @hk2 (And.intro @h2.symm (And.intro @h3.symm (And.intro (eq_true hq) @hq))))))))))))
      refine rn F ?_
      exact ⟨_,rfl,rfl,fun h=>QfS hkk hkc0⟩
    · skip
      have F:=(And.intro @hk (And.intro @hc (And.intro @hb (And.intro @hkb (And.intro @hkk (And.intro @hkc (And.intro @h2 (And.intro @h3 (And.intro @hk2 (And.intro @h2.symm (And.intro @h3.symm (And.intro (eq_true hq) @hq))))))))))))
      refine rn F ?_
      exact ⟨_,rfl,rfl,fun h=>by cases h⟩
  · obtain ⟨f1,f2,f3,f4⟩:=fl4 hq
    rw [f1,f2,f3,f4]
    cases ab
    · skip
      have F:=(And.intro @hk (And.intro @hc (And.intro @hb (And.intro @hkb (And.intro @hkk (And.intro @hkc (And.intro @h2 (And.intro @h3 (And.intro @hk2 (And.intro @h2.symm (And.intro @h3.symm (And.intro (eq_true hq) @hq))))))))))))
      refine rn F ?_
      exact ⟨_,rfl,rfl,fun h=>QfS hkk hkc0⟩
    · skip
      have F:=(And.intro @hk (And.intro @hc (And.intro @hb (And.intro @hkb (And.intro @hkk (And.intro @hkc (And.intro @h2 (And.intro @h3 (And.intro @hk2 (And.intro @h2.symm (And.intro @h3.symm (And.intro (eq_true hq) @hq))))))))))))
      refine rn F ?_
      exact ⟨_,rfl,rfl,fun h=>by cases h⟩
  · obtain ⟨f1,f2,f3,f4⟩:=fl5 hq
    rw [f1,f2,f3,f4]
    cases ab
    · cases ea
      · skip
        have F:=(And.intro @hk (And.intro @hc (And.intro @hb (And.intro @hkb (And.intro @hkk (And.intro @hkc (And.intro @h2 (And.intro @h3 (And.intro @hk2 (And.intro @h2.symm (And.intro @h3.symm (And.intro @hq @hle))))))))))))
        refine rn F ?_
        exact ⟨_,rfl,rfl,fun h=>by cases h⟩
      · skip
        have F:=(And.intro @hk (And.intro @hc (And.intro @hb (And.intro @hkb (And.intro @hkk (And.intro @hkc (And.intro @h2 (And.intro @h3 (And.intro @hk2 (And.intro @h2.symm (And.intro @h3.symm (And.intro @hq @hle))))))))))))
        refine rn F ?_
        exact ⟨_,rfl,rfl,fun h=>QfS hkk hkc0⟩
    · skip
      have F:=(And.intro @hk (And.intro @hc (And.intro @hb (And.intro @hkb (And.intro @hkk (And.intro @hkc (And.intro @h2 (And.intro @h3 (And.intro @hk2 (And.intro @h2.symm (And.intro @h3.symm (And.intro @hq @hle))))))))))))
      refine rn F ?_
      exact ⟨_,rfl,rfl,fun h=>QfS hkk hkc0⟩
  · obtain ⟨f1,f2,f3,f4⟩:=fl0 ⟨q1,q3,q4,q5⟩
    rw [f1,f2,f3,f4]
    cases ab
    · skip
      have F:=(And.intro @hk (And.intro @hc (And.intro @hb (And.intro @hkb (And.intro @hkk (And.intro @hkc (And.intro @h2 (And.intro @h3 (And.intro @hk2 (And.intro @h2.symm (And.intro @h3.symm (And.intro @q1 (And.intro @q3 (And.intro @q4 @q5))))))))))))))
      refine rn F ?_
      exact ⟨_,rfl,rfl,fun h=>Qny hkk hkc0 hp0⟩
    · skip
      have F:=(And.intro @hk (And.intro @hc (And.intro @hb (And.intro @hkb (And.intro @hkk (And.intro @hkc (And.intro @h2 (And.intro @h3 (And.intro @hk2 (And.intro @h2.symm (And.intro @h3.symm (And.intro @q1 (And.intro @q3 (And.intro @q4 @q5))))))))))))))
      refine rn F ?_
      exact ⟨_,rfl,rfl,fun h=>by cases h⟩
end
section
attribute [local go_sem] Ce.d Ch.d E.d Qjo QpV QpU QpN QpQ Qfb Qw8 Qw7 Qw6 E.q Nat.not_lt_zero QaU Qay
def Qof (f:Int) (U:List Int) (P:List E) (e:E):Bool:=!decide (e.ref ∈ U) && (if P.any (Q3 e) = true then
    (if f<=e.ref then decide ((P.getD (P.findIdx (Q3 e)) E0).lsn = e.ref) && (eqC (P.getD (P.findIdx (Q3 e)) E0).c.inv e.c && !(P.drop (P.findIdx (Q3 e) + 1)).any (QcS e)) else !(P.drop (P.findIdx (Q3 e))).any (QcS e))
  else decide (e.ref < f))
def QqP (f:Int) (P:List E) (e:E):List E:=if f<=e.ref then Qoe P (P.findIdx (Q3 e)) else P
theorem RunOk.app {hp r:Qa} {k kp:Nat} {la:Int} {ea ab en:Bool} {P:List E} (h:RunOk hp k kp la ea ab en P):RunOk (hp ++ r) k kp la ea ab en P:=by
  obtain ⟨h1,p,h2,h3⟩:=h
  refine ⟨by rw [List.length_append]; omega,p,by rw [QR h1]; exact h2,?_⟩
  rcases h3 with h | ⟨e1,e2,e3⟩
  · exact .inl h
  · exact .inr ⟨e1,by rw [List.length_append]; omega,by rw [List.getElem?_append_left e2]; exact e3⟩
theorem Left.ofRun {hp r:Qa} {k kp:Nat} {la:Int} {ea ab en:Bool} {P:List E} (h:RunOk hp k kp la ea ab en P):Left hp k kp la ea ab en P (hp ++ r):=⟨(FrH.refl _ _).app r,kp,.inl rfl,h.app⟩
theorem QDO {hp:Qa} {k kp n:Nat} {la:Int} {ea ab en:Bool} {P:List E} {x y z:Blk} {p:DV} (hkk:k < hp.length) (hkc:Qb hp k = some (rnC la ea ab en p)) (hn:P.length = n) :
    Left hp k kp la ea ab en P (Qj hp k (rnC la ea ab en (.own (hp.length + 3) 13 0 n)) ++ [x,y,z,⟨60,true,cells encE P⟩]):=by
  have hl:(Qj hp k (rnC la ea ab en (.own (hp.length + 3) 13 0 n))).length = hp.length:=by rw [Qal]
  refine ⟨((FrH.refl _ _).set (.inl rfl) _).app _,hp.length + 3,.inr (by omega),by simp [hl]; omega,.own (hp.length + 3) 13 0 n,?_,.inr ⟨by rw [hn],by simp [hl],?_⟩⟩
  · rw [QR (by omega),Qav,hkc]; rfl
  · rw [Qi2 (by simp [hl])]; simp [hl]
theorem Qtu (hp:Qa) (g:MapsD) (kc bt bp bu:Nat) (f:Int) (e:E) (U:List Int) (hk:kc < hp.length) (hc:Qb hp kc = some (ckC f bt bp bu)) (hg:(bu,Qbp kI (Qdh U)) ∈ g) (k kp:Nat) (la:Int) (ea ab en:Bool) (P:List E) (hPl:P.length<=10000) (hr:RunOk hp k kp la ea ab en P) (hne:k ≠ kp) :
    VCallsG prog 60 [.ptr kc 0,.ptr k 0,.agg e.d] hp g (fun r h' g'=>∃ b,r = .bool b/\b = Qof f U P e/\(b = true->Left hp k kp la ea ab en (QqP f P e) h'/\g' = g.map fun p=>if p.1 = bu then (bu,Qbp kI (Qdh (Qno U e.ref))) else p)):=by
  have hr0:=hr
  obtain ⟨hkk,p,hkc,hp0⟩:=hr
  rcases hp0 with ⟨rfl,rfl⟩ | ⟨rfl,hkp,hpb⟩
  · refine (Qpi hp g kc bt bp bu f e U hk hc hg k la ea ab en hkk hkc).mono ?_
    rintro r h' g' ⟨b,e1,e2,e3⟩
    refine ⟨b,e1,?_,fun hb=>?_⟩
    · rw [e2]; simp [Qof,Bool.and_comm]
    · obtain ⟨⟨x,rfl⟩,e4⟩:=e3 hb
      refine ⟨?_,e4⟩
      rw [show QqP f [] e = [] by unfold QqP Qoe; simp]
      exact Left.ofRun hr0
  by_cases ha:P.any (Q3 e) = true
  · have hj:P.findIdx (Q3 e) < P.length:=List.findIdx_lt_length_of_exists (by simpa using ha)
    by_cases hf:f<=e.ref
    · have hlen:(Qoe P (P.findIdx (Q3 e))).length = P.length - 1:=by simp [Qoe]; omega
      have fin:∀ r (h':Qa) (g':MapsD),(∃ b,r = DV.bool b/\b = (decide ((P.getD (P.findIdx (Q3 e)) E0).lsn = e.ref) && (eqC (P.getD (P.findIdx (Q3 e)) E0).c.inv e.c && (!decide (e.ref ∈ U) && !(P.drop (P.findIdx (Q3 e) + 1)).any (QcS e))))/\(b = true->(∃ x y z,h' = Qj hp k (rnC la ea ab en (.own (hp.length + 3) 13 0 (P.length - 1))) ++ [x,y,z,⟨60,true,cells encE (Qoe P (P.findIdx (Q3 e)))⟩])/\g' = g.map fun p=>if p.1 = bu then (bu,Qbp kI (Qdh (Qno U e.ref))) else p)) ->
          ∃ b,r = .bool b/\b = Qof f U P e/\(b = true->Left hp k kp la ea ab en (QqP f P e) h'/\g' = g.map fun p=>if p.1 = bu then (bu,Qbp kI (Qdh (Qno U e.ref))) else p):=by
        rintro r h' g' ⟨b,e1,e2,e3⟩
        refine ⟨b,e1,?_,fun hb=>?_⟩
        · rw [e2,Qof,if_pos ha,if_pos hf]
          generalize decide (e.ref ∈ U) = q1
          generalize decide ((P.getD (P.findIdx (Q3 e)) E0).lsn = e.ref) = q2
          generalize eqC _ _ = q3
          generalize List.any _ _ = q4
          cases q1<;>cases q2<;>cases q3<;>rfl
        · obtain ⟨⟨x,y,z,rfl⟩,e4⟩:=e3 hb
          refine ⟨?_,e4⟩
          rw [QqP,if_pos hf]
          exact QDO hkk hkc hlen
      by_cases hj1:P.findIdx (Q3 e) + 1 = P.length
      · exact (Qpe hp g kc bt bp bu f e U hk hc hg k kp la ea ab en P hPl hkk hkc hkp hpb hne ha hf hj1).mono fin
      · exact (Qpg hp g kc bt bp bu f e U hk hc hg k kp la ea ab en P hPl hkk hkc hkp hpb hne ha hf (by omega)).mono fin
    · refine (Qph hp g kc bt bp bu f e U hk hc hg k kp la ea ab en P hPl hkk hkc hkp hpb hne ha hf).mono ?_
      rintro r h' g' ⟨b,e1,e2,e3⟩
      refine ⟨b,e1,?_,fun hb=>?_⟩
      · rw [e2,Qof,if_pos ha,if_neg hf]
      · obtain ⟨⟨x,rfl⟩,e4⟩:=e3 hb
        refine ⟨?_,e4⟩
        rw [QqP,if_neg hf]
        exact Left.ofRun hr0
  · have ha':P.any (Q3 e) = false:=by simpa using ha
    refine (Qpf hp g kc bt bp bu f e U hk hc hg k kp la ea ab en P hPl hkk hkc hkp hpb hne ha').mono ?_
    rintro r h' g' ⟨b,e1,e2,e3⟩
    refine ⟨b,e1,?_,fun hb=>?_⟩
    · rw [e2,Qof,if_neg ha,Bool.and_comm]
    · obtain ⟨⟨x,rfl⟩,e4⟩:=e3 hb
      refine ⟨?_,e4⟩
      have hf:¬ f<=e.ref:=by
        rw [e2] at hb
        simp at hb
        omega
      rw [QqP,if_neg hf]
      exact Left.ofRun hr0
theorem QB8 (c:Qjq) (hp:Qa) (g:MapsD) (b kb kc bt bp bu:Nat) (f:Int) (e:E) (L:List (Int × DV)) (U:List Int) (hkb:kb < hp.length) (hb:Qb hp kb = some e.d) (hk:kc < hp.length) (hc:Qb hp kc = some (ckC f bt bp bu)) (hg:(bt,Qbp kI L) ∈ g) (hgu:(bu,Qbp kI (Qdh U)) ∈ g)
    (k kp:Nat) (la:Int) (ea ab en:Bool) (P:List E) (hPl:P.length<=10000) (hr:RunOk hp k kp la ea ab en P) (hn:QdA L e.tx = some (.ptr k 0)) (h1:k ≠ kp) (hk2:e.kind = 2) :
    VWpG prog (Qa2 c) (Qct 3 (Qcz Tryz.f35)) (QcA prog [.tmp 4] fun r h' g'=>∃ b,r = .bool b/\b = Qof f U P e/\(b = true->Left hp k kp la ea ab en (QqP f P e) h'/\g' = g.map fun p=>if p.1 = bu then (bu,Qbp kI (Qdh (Qno U e.ref))) else p)) ⟨97,b,[(3,.ptr kb 0),(0,.ptr kc 0)],hp⟩ g:=by
  have hcu:=Qtu hp g kc bt bp bu f e U hk hc hgu k kp la ea ab en P hPl hr h1
  obtain ⟨hkk,p,hkc,hp0⟩:=hr
  unfold ckC at hc
  unfold rnC at hkc
  unfold E.d at hb hcu
  show VWpG prog (Qa2 c) (.seq _ _) _ _ _
  refine VWpG.seq ?_
  refine VWpG.drawn (k:=6) (f:=6) (Qc c) (by kernel_rfl) (by kernel_rfl) (by kernel_rfl) (by kernel_rfl) rfl ?_; refine QX (by kernel_rfl) ?_
  refine rn (And.intro @hk (And.intro @hc (And.intro @hb @hkb))) ?_
  refine Qbl (zv:=.pointer none) (L:=L) (k:=e.tx) rfl rfl um1 Qjp (Qau z1) (QaR rfl) rfl hg (Qan rfl) ?_
  rw [hn]
  refine rn trivial ?_
  refine VWpG.seq ?_
  have d2:(e.kind = 2) = True:=eq_true hk2
  have d1:¬ e.kind = 1:=by omega
  refine VWpG.first (Qc c) ?_
  cases ab
  · (refine rn (And.intro @hk (And.intro @hc (And.intro @hb (And.intro @hkb (And.intro @hkk (And.intro @hkc @d2)))))) ?_; try with_reducible exact ⟨⟩)
    refine VWpG.cond rfl (fun hZ=>?_) (fun hZ=>?_)
    · cases hZ
    refine VWpG.plain (Qc c) ?_
    refine rn trivial ?_
    refine VWpG.seq ?_
    refine VWpG.first (Qc c) ?_
    refine rn (And.intro @hb @hkb) ?_
    refine VWpG.block ?_
    refine VWpG.first (Qc c) ?_
    refine rn @d1 ?_
    refine VWpG.cond rfl (fun hZ=>?_) (fun hZ=>?_)
    · cases hZ
    refine VWpG.first (Qc c) ?_
    refine rn @d2 ?_
    refine VWpG.cond rfl (fun hZ=>?_) (fun hZ=>?_)
    · refine VWpG.seq ?_
      refine VWpG.cut1 (Qc c) 3 [] ?_
      refine rn (And.intro @hk (And.intro @hc (And.intro @hb (And.intro @hkb (And.intro @hkk @hkc))))) ?_
      refine Qep rfl rfl rfl hcu ?_
      rintro r h' g' ⟨b',rfl,e2,e3⟩
      refine rn trivial ?_
      refine VWpG.plain (Qc c) ?_
      refine rn trivial ?_
      exact ⟨b',rfl,e2,e3⟩
    · cases hZ
  · (refine rn (And.intro @hk (And.intro @hc (And.intro @hb (And.intro @hkb (And.intro @hkk (And.intro @hkc @d2)))))) ?_; try with_reducible exact ⟨⟩)
    refine VWpG.cond rfl (fun hZ=>?_) (fun hZ=>?_)
    · cases hZ
    refine VWpG.plain (Qc c) ?_
    refine rn trivial ?_
    refine VWpG.seq ?_
    refine VWpG.first (Qc c) ?_
    refine rn (And.intro @hb @hkb) ?_
    refine VWpG.block ?_
    refine VWpG.first (Qc c) ?_
    refine rn @d1 ?_
    refine VWpG.cond rfl (fun hZ=>?_) (fun hZ=>?_)
    · cases hZ
    refine VWpG.first (Qc c) ?_
    refine rn @d2 ?_
    refine VWpG.cond rfl (fun hZ=>?_) (fun hZ=>?_)
    · refine VWpG.seq ?_
      refine VWpG.cut1 (Qc c) 3 [] ?_
      refine rn (And.intro @hk (And.intro @hc (And.intro @hb (And.intro @hkb (And.intro @hkk @hkc))))) ?_
      refine Qep rfl rfl rfl hcu ?_
      rintro r h' g' ⟨b',rfl,e2,e3⟩
      refine rn trivial ?_
      refine VWpG.plain (Qc c) ?_
      refine rn trivial ?_
      exact ⟨b',rfl,e2,e3⟩
    · cases hZ
end
section
attribute [local go_sem] Ce.d Ch.d E.d Qjo QpV QpU QpN QpQ Qfb Qw8 Qw7 Qw6 E.q Nat.not_lt_zero QaU Qay
def QeI (x:E):Bool:=x.kind == 1 || x.kind == 2
def ckG (bt bp bu:Nat) (L:List (Int × DV)) (Pg:List (Int × Int)) (U:List Int):MapsD:=[(bt,Qbp kI L),(bp,Qbp kI (QoY Pg)),(bu,Qbp kI (Qdh U))]
def Qhj (f:Int) (U:List Int) (e:E) (ea ab:Bool) (P:List E):Bool:=if e.kind = 2 then Qof f U P e else QeZ e ea ab P
def QdN (f:Int) (e:E) (P:List E):List E:=if e.kind = 2 then QqP f P e else nP e P
def QiC (U:List Int) (e:E):List Int:=if e.kind = 2 then Qno U e.ref else U
theorem QD3 {bt bp bu:Nat} (h1:bt ≠ bp) (h3:bp ≠ bu) (L:List (Int × DV)) (Pg Pg':List (Int × Int)) (U:List Int):((ckG bt bp bu L Pg U).map fun p=>if p.1 = bp then (bp,Qbp kI (QoY Pg')) else p) = ckG bt bp bu L Pg' U:=by
  simp [ckG,h1,Ne.symm h3]
theorem QD1 {bt bp bu:Nat} (h1:bt ≠ bu) (h3:bp ≠ bu) (L:List (Int × DV)) (Pg:List (Int × Int)) (U U':List Int):((ckG bt bp bu L Pg U).map fun p=>if p.1 = bu then (bu,Qbp kI (Qdh U')) else p) = ckG bt bp bu L Pg U':=by
  simp [ckG,h1,h3]
theorem QD2 {bt bp bu:Nat} (h1:bt ≠ bp) (h3:bt ≠ bu) (L L':List (Int × DV)) (Pg:List (Int × Int)) (U:List Int):((ckG bt bp bu L Pg U).map fun p=>if p.1 = bt then (bt,Qbp kI L') else p) = ckG bt bp bu L' Pg U:=by
  simp [ckG,Ne.symm h1,Ne.symm h3]
theorem Qbz {P:Program} {rs:List ResultVar} {R R':DV->Qa->MapsD->Prop} (hh:∀ r h g,R r h g->R' r h g):∀ e S g,QcA P rs R e S g->QcA P rs R' e S g:=fun e S g h=>by
  unfold QcA at h |-
  cases e<;>dsimp only at h |-<;>first | exact h | (split at h<;>first | exact hh _ _ _ h | exact h)
theorem QCb (c:Qjq) (hp:Qa) (b kb kc bt bp bu:Nat) (hbb:bt ≠ bp/\bt ≠ bu/\bp ≠ bu) (f:Int) (e:E) (L:List (Int × DV)) (Pg:List (Int × Int)) (U:List Int) (hkb:kb < hp.length) (hb:Qb hp kb = some e.d) (hk:kc < hp.length) (hc:Qb hp kc = some (ckC f bt bp bu))
    (k kp:Nat) (la:Int) (ea ab en:Bool) (P:List E) (hPl:P.length<=10000) (hr:RunOk hp k kp la ea ab en P) (hn:QdA L e.tx = some (.ptr k 0)) (h1:k ≠ kp) (h2:k ≠ kc) (h3:k ≠ kb) (h4:kp ≠ kc) (h5:kp ≠ kb) :
    VWpG prog (Qa2 c) (Qct 3 (Qcz Tryz.f35)) (QcA prog [.tmp 4] fun r h' g'=>∃ b,r = .bool b/\b = Qhj f U e ea ab P/\(b = true->Left hp k kp la ea (nab e ab) (nen e en) (QdN f e P) h'/\g' = ckG bt bp bu L Pg (QiC U e))) ⟨97,b,[(3,.ptr kb 0),(0,.ptr kc 0)],hp⟩ (ckG bt bp bu L Pg U):=by
  have hgt:(bt,Qbp kI L) ∈ ckG bt bp bu L Pg U:=by simp [ckG]
  have hgu:(bu,Qbp kI (Qdh U)) ∈ ckG bt bp bu L Pg U:=by simp [ckG]
  by_cases hk2:e.kind = 2
  · refine (QB8 c hp _ b kb kc bt bp bu f e L U hkb hb hk hc hgt hgu k kp la ea ab en P hPl hr hn h1 hk2).mono (Qbz ?_)
    rintro r h' g' ⟨b,e1,e2,e3⟩
    refine ⟨b,e1,by rw [e2,Qhj,if_pos hk2],fun hb=>?_⟩
    obtain ⟨e4,e5⟩:=e3 hb
    rw [QD1 hbb.2.1 hbb.2.2] at e5
    rw [QdN,if_pos hk2,QiC,if_pos hk2,show nab e ab = ab by simp [nab,hk2],show nen e en = en by simp [nen,hk2]]
    exact ⟨e4,e5⟩
  · obtain ⟨hkk,p,hkc,hp0⟩:=hr
    have fin:∀ (r:DV) (h':Qa) (g':MapsD),(∃ b,r = .bool b/\b = QeZ e ea ab P/\(b = true->g' = ckG bt bp bu L Pg U/\Left hp k kp la ea (nab e ab) (nen e en) (nP e P) h'))->∃ b,r = .bool b/\b = Qhj f U e ea ab P/\(b = true->Left hp k kp la ea (nab e ab) (nen e en) (QdN f e P) h'/\g' = ckG bt bp bu L Pg (QiC U e)):=by
      rintro r h' g' ⟨b,e1,e2,e3⟩
      refine ⟨b,e1,by rw [e2,Qhj,if_neg hk2],fun hb=>?_⟩
      obtain ⟨e4,e5⟩:=e3 hb
      rw [QdN,if_neg hk2,QiC,if_neg hk2]
      exact ⟨e5,e4⟩
    rcases hp0 with ⟨rfl,rfl⟩ | ⟨rfl,hkp,hpb⟩
    · exact (QCa c hp _ b kb kc bt bp bu f e L hkb hb hk hc hgt k kp la ea ab en hkk hkc hn h2 h3 hk2).mono (Qbz fin)
    · exact (QB9 c hp _ b kb kc bt bp bu f e L hkb hb hk hc hgt k kp la ea ab en P hPl hkk hkc hkp hpb hn h1 h2 h3 h4 h5 hk2).mono (Qbz fin)
def QmR (hp:Qa) (kc:Nat) (e:E) (k kp:Nat) (ea ab en:Bool) (P:List E) (h':Qa):Prop:=kc < h'.length/\Qb h' kc = Qb hp kc/\hp.length + 1<=h'.length/\Qb h' hp.length = some e.d/\RunOk h' k kp e.lsn ea ab en P/\FrH hp h' (fun j=>j = k\/j = kp)
theorem QtJ (hp:Qa) (kc bt bp bu:Nat) (hbb:bt ≠ bp/\bt ≠ bu/\bp ≠ bu) (f:Int) (e:E) (L L':List (Int × DV)) (Pg:List (Int × Int)) (U:List Int) (hk:kc < hp.length) (hc:Qb hp kc = some (ckC f bt bp bu)) (htx:e.tx ≠ 0)
    (k kp:Nat) (rb ea ab en:Bool) (P:List E) (hPl:P.length<=10000) (hn:QdA L' e.tx = some (.ptr k 0)) (h1:k ≠ kp) (h2:k ≠ kc) (h3:k ≠ hp.length) (h4:kp ≠ kc) (h5:kp ≠ hp.length)
    (hright:∀ B:Blk,B = ⟨60,true,e.d⟩->VCallsG prog 58 [.ptr kc 0,.agg e.d] (hp ++ [B]) (ckG bt bp bu L Pg U) (fun r h' g'=>r = .bool rb/\QmR hp kc e k kp ea ab en P h'/\g' = ckG bt bp bu L' Pg U)) :
    VCallsG prog 35 [.ptr kc 0,.agg e.d] hp (ckG bt bp bu L Pg U) (fun r h' g'=>∃ b,r = .bool b/\b = (rb && ((!QeI e || pagedB f Pg e) && Qhj f U e ea ab P)) /\
      (b = true->FrH hp h' (fun j=>j = k\/j = kp)/\(∃ kp',(kp' = kp\/hp.length<=kp')/\RunOk h' k kp' e.lsn ea (nab e ab) (nen e en) (QdN f e P))/\g' = ckG bt bp bu L' (if QeI e = true then QpP Pg e.c.pg e.lsn else Pg) (QiC U e))):=by
  have hr0:=hright _ rfl
  refine Q4 (fn:=Tryz.f35) Tryz.func35 rfl (by kernel_rfl) (by simp [Tryz.f35]) (fun c=>?_)
  have hc0:=hc
  unfold ckC at hc
  unfold E.d at hr0
  refine VWpG.first (Qc c) ?_
  (unfold Tryz.f35; refine rn trivial ?_)
  refine VWpG.seq ?_
  refine VWpG.first (Qc c) ?_
  refine rn @htx ?_
  refine VWpG.cond rfl (fun hZ=>?_) (fun hZ=>?_)
  · cases hZ
  refine VWpG.plain (Qc c) ?_
  refine rn trivial ?_
  refine VWpG.seq ?_
  refine VWpG.seq ?_
  refine VWpG.cut1 (Qc c) 2 [7] ?_
  refine rn trivial ?_
  refine Qep rfl rfl rfl hr0 ?_
  rintro r h1' g1 ⟨rfl,⟨q1,q2,q3,q4,q5,q6⟩,rfl⟩
  have q4':Qb h1' hp.length = some [.int .i64 e.lsn,.int .i64 e.kind,.int .i64 e.tx,.int .i64 e.ptx,.int .i64 e.ppg,.int .i64 e.ref,.int .i64 e.c.pg,.int .i64 e.c.sl,.bool e.c.b.set,.pv (.str e.c.b.data),.bool e.c.a.set,.pv (.str e.c.a.data),.pv (.str e.blob)]:=q4
  have q2':=q2
  rw [hc] at q2'
  have hl3:hp.length < h1'.length:=by omega
  have hcg:VCalls prog 43 [.agg [.int .i64 e.lsn,.int .i64 e.kind,.int .i64 e.tx,.int .i64 e.ptx,.int .i64 e.ppg,.int .i64 e.ref,.int .i64 e.c.pg,.int .i64 e.c.sl,.bool e.c.b.set,.pv (.str e.c.b.data),.bool e.c.a.set,.pv (.str e.c.a.data),.pv (.str e.blob)]] [] (Ret (.bool (QeI e))):=Qlc e
  refine Qdb ?_
  cases rb
  · (refine rn trivial ?_; try with_reducible exact ⟨⟩)
    refine Qnr rfl rfl ?_
    refine rn trivial ?_
    refine VWpG.cond rfl (fun hZ=>?_) (fun hZ=>?_)
    · refine VWpG.plain (Qc c) ?_
      refine rn trivial ?_
      exact ⟨false,rfl,rfl,fun h=>by cases h⟩
    · cases hZ
  cases hch:QeI e
  · rw [hch] at hcg
    refine rn (And.intro @q4' @hl3) ?_
    refine Qas hcg rfl ?_
    refine rn trivial ?_
    refine Qnr rfl rfl ?_
    refine rn trivial ?_
    refine VWpG.cond rfl (fun hZ=>?_) (fun hZ=>?_)
    · cases hZ
    refine VWpG.plain (Qc c) ?_
    refine rn trivial ?_
    refine VWpG.weakG (VWpG.mono (QCb c h1' h1'.length hp.length kc bt bp bu hbb f e L' Pg U hl3 q4 q1 (q2.trans hc0) k kp e.lsn ea ab en P hPl q5 hn h1 h2 h3 h4 h5) (Qbz ?_)) (WeakG.slots rfl rfl ?_)
    · rintro r h' g' ⟨b,e1,e2,e3⟩
      refine ⟨b,e1,e2,fun hb=>?_⟩
      obtain ⟨⟨e4,kp',e5,e6⟩,e7⟩:=e3 hb
      exact ⟨q6.trans e4 fun _ _ h=>h,⟨kp',e5.imp id fun h=>by omega,e6⟩,e7⟩
    · intro p hp
      simp only [List.mem_cons,List.not_mem_nil,or_false] at hp
      rcases hp with rfl | rfl<;>exact .inl rfl
  · rw [hch] at hcg
    refine rn (And.intro @q4' @hl3) ?_
    refine Qas hcg rfl ?_
    refine rn (And.intro @q4' @hl3) ?_
    refine Qep rfl rfl rfl (QwF h1' _ kc bt bp bu f e Pg q1 (q2.trans hc0) (by simp [ckG])) ?_
    rintro r h2' g2 ⟨rfl,⟨x,rfl⟩,rfl⟩
    refine rn trivial ?_
    rw [QD3 hbb.1 hbb.2.2]
    cases hpb:pagedB f Pg e
    · refine VWpG.cond rfl (fun hZ=>?_) (fun hZ=>?_)
      · refine VWpG.plain (Qc c) ?_
        refine rn trivial ?_
        exact ⟨false,rfl,rfl,fun h=>by cases h⟩
      · cases hZ
    · refine VWpG.cond rfl (fun hZ=>?_) (fun hZ=>?_)
      · cases hZ
      refine VWpG.plain (Qc c) ?_
      refine rn trivial ?_
      refine VWpG.weakG (VWpG.mono (QCb c (h1' ++ [x]) (h1'.length + 1) hp.length kc bt bp bu hbb f e L' (QpP Pg e.c.pg e.lsn) U (by simp; omega) ((QR hl3).trans q4) (by simp; omega) ((QR q1).trans (q2.trans hc0)) k kp e.lsn ea ab en P hPl q5.app hn h1 h2 h3 h4 h5) (Qbz ?_)) (WeakG.slots rfl rfl ?_)
      · rintro r h' g' ⟨b,e1,e2,e3⟩
        refine ⟨b,e1,e2,fun hb=>?_⟩
        obtain ⟨⟨e4,kp',e5,e6⟩,e7⟩:=e3 hb
        exact ⟨(q6.app [x]).trans e4 fun _ _ h=>h,⟨kp',e5.imp id fun h=>by simp at h; omega,e6⟩,e7⟩
      · intro p hp
        simp only [List.mem_cons,List.not_mem_nil,or_false] at hp
        rcases hp with rfl | rfl<;>exact .inl rfl
end
def RunP (hp:Qa) (k:Nat) (kpo:Option Nat) (la:Int) (ea ab en:Bool) (P:List E):Prop:=k < hp.length/\match kpo with
  | none=>P = []/\Qb hp k = some (rnC la ea ab en (.pv (.slc [])))
  | some kp=>Qb hp k = some (rnC la ea ab en (.own kp 13 0 P.length))/\kp < hp.length/\hp[kp]? = some ⟨60,true,cells encE P⟩
theorem RunP.ok {hp:Qa} {k:Nat} {kpo:Option Nat} {la:Int} {ea ab en:Bool} {P:List E} (h:RunP hp k kpo la ea ab en P):RunOk hp k (kpo.getD (hp.length + 7)) la ea ab en P:=by
  obtain ⟨h1,h2⟩:=h
  cases kpo with
  | none=>exact ⟨h1,_,h2.2,.inl ⟨h2.1,rfl⟩⟩
  | some kp=>exact ⟨h1,_,h2.1,.inr ⟨rfl,h2.2.1,h2.2.2⟩⟩
theorem RunOk.toP {hp:Qa} {k kp:Nat} {la:Int} {ea ab en:Bool} {P:List E} (h:RunOk hp k kp la ea ab en P):RunP hp k none la ea ab en P\/(RunP hp k (some kp) la ea ab en P):=by
  obtain ⟨h1,p,h2,h3⟩:=h
  rcases h3 with ⟨rfl,rfl⟩ | ⟨rfl,h4,h5⟩
  · exact .inl ⟨h1,rfl,h2⟩
  · exact .inr ⟨h1,h2,h4,h5⟩
theorem RunP.fr {hp h':Qa} {A:Nat->Prop} {k:Nat} {kpo:Option Nat} {la:Int} {ea ab en:Bool} {P:List E} (h:RunP hp k kpo la ea ab en P) (hf:FrH hp h' A) (hk:¬ A k) (hkp:∀ kp,kpo = some kp->¬ A kp):RunP h' k kpo la ea ab en P:=by
  obtain ⟨h1,h2⟩:=h
  have hb:=Qh9 (hf.same k h1 hk)
  refine ⟨Nat.lt_of_lt_of_le h1 hf.len,?_⟩
  cases kpo with
  | none=>exact ⟨h2.1,by rw [hb]; exact h2.2⟩
  | some kp=>exact ⟨by rw [hb]; exact h2.1,Nat.lt_of_lt_of_le h2.2.1 hf.len,by rw [hf.same kp h2.2.1 (hkp kp rfl)]; exact h2.2.2⟩
theorem QoC (hp:Qa) (kc bt bp bu:Nat) (f:Int) (e:E) (L:List (Int × DV)) (Pg:List (Int × Int)) (U:List Int) (hk:kc < hp.length) (hc:Qb hp kc = some (ckC f bt bp bu)) (k kp:Nat) (la:Int) (ea ab en:Bool) (P:List E) (hr:RunOk hp k kp la ea ab en P) (hn:QdA L e.tx = some (.ptr k 0)) (h1:k ≠ kp) (h2:k ≠ kc) (h5:kp ≠ hp.length) (B:Blk) (hB:B = ⟨60,true,e.d⟩) :
    VCallsG prog 58 [.ptr kc 0,.agg e.d] (hp ++ [B]) (ckG bt bp bu L Pg U) (fun r h' g'=>r = .bool (decide (e.ptx = la) && !en)/\QmR hp kc e k kp ea ab en P h'/\g' = ckG bt bp bu L Pg U):=by
  have hr':=hr.app (r:=[B])
  obtain ⟨hkk,p,hkc,hp0⟩:=hr
  refine (Qtv (hp ++ [B]) _ kc bt bp bu f e L (by simp; omega) ((QR hk).trans hc) (by simp [ckG]) k la ea ab en p (by simp; omega) ((QR hkk).trans hkc) hn).mono ?_
  rintro r h' g' ⟨rfl,⟨x,rfl⟩,rfl⟩
  have hl:(Qj (hp ++ [B]) k (rnC e.lsn ea ab en p)).length = hp.length + 1:=by rw [Qal]; simp
  have hfr:FrH hp (Qj (hp ++ [B]) k (rnC e.lsn ea ab en p) ++ [x]) (fun j=>j = k\/j = kp):=((((FrH.refl _ _).app [B])).set (.inl rfl) _).app _
  refine ⟨rfl,⟨by simp [hl]; omega,?_,by simp [hl],?_,⟨by simp [hl]; omega,p,?_,?_⟩,hfr⟩,rfl⟩
  · rw [QR (by omega),Qh8 h2,QR hk]
  · rw [QR (by omega),Qh8 (by omega),QnQ,hB]<;>rfl
  · rw [QR (by omega),Qav,QR hkk,hkc]<;>rfl
  · rcases hp0 with h | ⟨e1,e2,e3⟩
    · exact .inl h
    · exact .inr ⟨e1,by simp [hl]; omega,by rw [List.getElem?_append_left (by omega),Qbv h1,List.getElem?_append_left e2]; exact e3⟩
theorem Qvo (hp:Qa) (kc bt bp bu:Nat) (hbb:bt ≠ bp/\bt ≠ bu/\bp ≠ bu) (f:Int) (e:E) (L:List (Int × DV)) (Pg:List (Int × Int)) (U:List Int) (hk:kc < hp.length) (hc:Qb hp kc = some (ckC f bt bp bu)) (hn:QdA L e.tx = none) (kp:Nat) (B:Blk) (hB:B = ⟨60,true,e.d⟩) :
    VCallsG prog 58 [.ptr kc 0,.agg e.d] (hp ++ [B]) (ckG bt bp bu L Pg U) (fun r h' g'=>r = .bool (decide (e.ptx < f))/\QmR hp kc e (hp.length + 2) kp (decide (0 < e.ptx)) false false [] h'/\g' = ckG bt bp bu (Qgu L e.tx (.ptr (hp.length + 2) 0)) Pg U):=by
  refine (Qtw (hp ++ [B]) _ kc bt bp bu f e L (by simp; omega) ((QR hk).trans hc) (by simp [ckG]) hn).mono ?_
  rintro r h' g' ⟨rfl,⟨x,rfl⟩,rfl⟩
  have hl:(hp ++ [B]).length = hp.length + 1:=by simp
  refine ⟨rfl,⟨by simp<;>omega,?_,by simp<;>omega,?_,⟨by simp,.pv (.slc []),?_,.inl ⟨rfl,rfl⟩⟩,(((FrH.refl _ _).app [B]).app [x]).app _⟩,?_⟩
  · rw [QR (by simp; omega),QR (by simp; omega),QR hk]
  · rw [QR (by simp),QR (by simp),QnQ,hB]; rfl
  · rw [QmJ (by simp)]; simp [Qb]
  · rw [QD2 hbb.1 hbb.2.1,hl]
structure Tr where
  tx:Int
  last:Int
  ea:Bool
  ab:Bool
  en:Bool
  P:List E
structure Ck where
  T:List Tr
  Pg:List (Int × Int)
  U:List Int
def Qop:List Tr->Tr->List Tr
  | [],t=>[t]
  | a :: r,t=>if a.tx = t.tx then t :: r else a :: Qop r t
def Qhv (T:List Tr) (x:Int):Option Tr:=T.find? fun t=>decide (t.tx = x)
def ckB (f:Int) (A:Ck) (e:E):Bool:=if e.tx = 0 then true else match Qhv A.T e.tx with
  | some t=>(decide (e.ptx = t.last) && !t.en) && ((!QeI e || pagedB f A.Pg e) && Qhj f A.U e t.ea t.ab t.P)
  | none=>decide (e.ptx < f) && ((!QeI e || pagedB f A.Pg e) && Qhj f A.U e (decide (0 < e.ptx)) false [])
def ckS (f:Int) (A:Ck) (e:E):Ck:=if e.tx = 0 then A else match Qhv A.T e.tx with
  | some t=>⟨Qop A.T ⟨e.tx,e.lsn,t.ea,nab e t.ab,nen e t.en,QdN f e t.P⟩,if QeI e = true then QpP A.Pg e.c.pg e.lsn else A.Pg,QiC A.U e⟩
  | none=>⟨Qop A.T ⟨e.tx,e.lsn,decide (0 < e.ptx),nab e false,nen e false,QdN f e []⟩,if QeI e = true then QpP A.Pg e.c.pg e.lsn else A.Pg,QiC A.U e⟩
structure TX where
  t:Tr
  k:Nat
  kp:Option Nat
def TX.pos (x:TX):List Nat:=x.k :: x.kp.toList
def Qsq (X:List TX):List (Int × DV):=X.map fun x=>(x.t.tx,.ptr x.k 0)
structure RepX (f:Int) (kc bt bp bu:Nat) (hp:Qa) (X:List TX):Prop where
  hk:kc < hp.length
  hc:Qb hp kc = some (ckC f bt bp bu)
  run:∀ x ∈ X,RunP hp x.k x.kp x.t.last x.t.ea x.t.ab x.t.en x.t.P
  nd:(kc :: X.flatMap TX.pos).Nodup
def Rep (f:Int) (kc bt bp bu:Nat) (n:Nat) (hp:Qa) (g:MapsD) (A:Ck):Prop:=∃ X:List TX,X.map (·.t) = A.T/\g = ckG bt bp bu (Qsq X) A.Pg A.U/\RepX f kc bt bp bu hp X/\∀ t ∈ A.T,t.P.length<=n
theorem QCr (X:List TX) (x:Int):QdA (Qsq X) x = (X.find? fun y=>decide (y.t.tx = x)).map fun y=>.ptr y.k 0:=by
  induction X with
  | nil=>rfl
  | cons a r ih =>
    unfold Qsq at ih |-
    simp only [List.map_cons,QdA,List.find?_cons]
    by_cases h:a.t.tx = x
    · simp [h]
    · simp [h,ih]
theorem QCB (X:List TX) (x:Int):Qhv (X.map (·.t)) x = (X.find? fun y=>decide (y.t.tx = x)).map (·.t):=by
  unfold Qhv
  rw [List.find?_map]
  rfl
theorem QjY (f:Int) (e:E) (P:List E):(QdN f e P).length<=P.length + 1:=by
  unfold QdN QqP Qoe nP
  split
  · split
    · simp; omega
    · omega
  · split<;>simp
theorem QB2 {f:Int} {kc bt bp bu:Nat} {hp:Qa} {X:List TX} (h:RepX f kc bt bp bu hp X):∀ j ∈ X.flatMap TX.pos,j < hp.length:=by
  intro j hj
  obtain ⟨x,hx,hj⟩:=List.mem_flatMap.1 hj
  obtain ⟨h1,h2⟩:=h.run x hx
  unfold TX.pos at hj
  rcases List.mem_cons.1 hj with rfl | hj
  · exact h1
  · cases hkp:x.kp with
    | none=>rw [hkp] at hj; simp at hj
    | some kp=>rw [hkp] at hj h2; simp at hj; subst hj; exact h2.2.1
theorem Qm3 (T1 T2:List Tr) (t t':Tr) (h:∀ y ∈ T1,y.tx ≠ t'.tx) (ht:t.tx = t'.tx):Qop (T1 ++ t :: T2) t' = T1 ++ t' :: T2:=by
  induction T1 with
  | nil=>simp [Qop,ht]
  | cons a r ih=>simp only [List.cons_append,Qop]; rw [if_neg (h a (by simp)),ih fun y hy=>h y (List.mem_cons_of_mem _ hy)]
theorem QuR (T:List Tr) (t':Tr) (h:∀ y ∈ T,y.tx ≠ t'.tx):Qop T t' = T ++ [t']:=by
  induction T with
  | nil=>rfl
  | cons a r ih=>simp only [Qop]; rw [if_neg (h a (by simp)),ih fun y hy=>h y (List.mem_cons_of_mem _ hy)]; rfl
theorem RunP.ne {hp:Qa} {k kp:Nat} {la:Int} {ea ab en:Bool} {P:List E} (h:RunP hp k (some kp) la ea ab en P):kp ≠ k:=fun e=>by
  obtain ⟨_,h1,_,h2⟩:=h
  rw [e] at h2
  have:=Qdx h2
  rw [h1] at this
  have:=congrArg List.length (Option.some.inj this)
  rw [Qjo] at this
  simp [rnC] at this
  omega
theorem Qr9 {kc:Nat} {X1 X2:List TX} {x:TX} (h:(kc :: (X1 ++ x :: X2).flatMap TX.pos).Nodup):x.pos.Nodup/\kc ∉ x.pos/\(∀ j ∈ X1.flatMap TX.pos,j ∉ x.pos)/\(∀ j ∈ X2.flatMap TX.pos,j ∉ x.pos)/\(kc :: (X1 ++ X2).flatMap TX.pos).Nodup:=by
  simp only [List.flatMap_append,List.flatMap_cons,List.nodup_cons,List.nodup_append,List.mem_append,not_or] at h |-
  obtain ⟨⟨a1,a2,a3⟩,b1,⟨b2,b3,b4⟩,b5⟩:=h
  exact ⟨b2,a2,fun j hj hx=>b5 j hj j (.inl hx) rfl,fun j hj hx=>b4 j hx j hj rfl,⟨a1,a3⟩,b1,b3,fun j hj m hm=>b5 j hj m (.inr hm)⟩
theorem QvJ {kc:Nat} {X1 X2:List TX} {x:TX} (h1:x.pos.Nodup) (h2:kc ∉ x.pos) (h3:∀ j ∈ X1.flatMap TX.pos,j ∉ x.pos) (h4:∀ j ∈ X2.flatMap TX.pos,j ∉ x.pos) (h5:(kc :: (X1 ++ X2).flatMap TX.pos).Nodup):(kc :: (X1 ++ x :: X2).flatMap TX.pos).Nodup:=by
  simp only [List.flatMap_append,List.flatMap_cons,List.nodup_cons,List.nodup_append,List.mem_append,not_or] at h5 |-
  obtain ⟨⟨a1,a2⟩,b1,b2,b3⟩:=h5
  exact ⟨⟨a1,h2,a2⟩,b1,⟨h1,b2,fun a ha b hb e=>h4 b hb (e ▸ ha)⟩,fun a ha b hb=>hb.elim (fun hb e=>h3 a ha (e ▸ hb)) (fun hb=>b3 a ha b hb)⟩
theorem QrF {f:Int} {kc bt bp bu:Nat} {hp h':Qa} {X1 X2:List TX} {t':Tr} {k kp kp':Nat} {A:Nat->Prop} (hR:RepX f kc bt bp bu hp (X1 ++ X2)) (hfr:FrH hp h' A) (hkc:¬ A kc) (hA:∀ j ∈ (X1 ++ X2).flatMap TX.pos,¬ A j) (hk:k ≠ kc/\k ∉ (X1 ++ X2).flatMap TX.pos) (hkp:(kp' ≠ kc/\kp' ∉ (X1 ++ X2).flatMap TX.pos))
    (hrun:RunOk h' k kp' t'.last t'.ea t'.ab t'.en t'.P):∃ kpo,RepX f kc bt bp bu h' (X1 ++ ⟨t',k,kpo⟩ :: X2):=by
  have old:∀ y ∈ X1 ++ X2,RunP h' y.k y.kp y.t.last y.t.ea y.t.ab y.t.en y.t.P:=fun y hy=>
    (hR.run y hy).fr hfr (hA _ (List.mem_flatMap.2 ⟨y,hy,by simp [TX.pos]⟩)) fun kp h=>hA _ (List.mem_flatMap.2 ⟨y,hy,by simp [TX.pos,h]⟩)
  have fin:∀ kpo,RunP h' k kpo t'.last t'.ea t'.ab t'.en t'.P->(∀ j ∈ kpo.toList,j = kp')->RepX f kc bt bp bu h' (X1 ++ ⟨t',k,kpo⟩ :: X2):=fun kpo hr hj=>by
    refine ⟨Nat.lt_of_lt_of_le hR.hk hfr.len,by rw [Qh9 (hfr.same kc hR.hk hkc)]; exact hR.hc,fun y hy=>?_,?_⟩
    · rcases List.mem_append.1 hy with hy | hy
      · exact old y (List.mem_append_left _ hy)
      · rcases List.mem_cons.1 hy with rfl | hy
        · exact hr
        · exact old y (List.mem_append_right _ hy)
    · have hin:∀ j,j ∈ (⟨t',k,kpo⟩:TX).pos->j = k\/j = kp':=fun j h=>by
        unfold TX.pos at h
        rcases List.mem_cons.1 h with h | h
        · exact .inl h
        · exact .inr (hj j h)
      have hno:∀ j ∈ (X1 ++ X2).flatMap TX.pos,j ∉ (⟨t',k,kpo⟩:TX).pos:=fun j h h2=>by
        rcases hin j h2 with rfl | rfl
        · exact hk.2 h
        · exact hkp.2 h
      refine QvJ ?_ (fun h=>?_) (fun j h=>hno j (by rw [List.flatMap_append]; exact List.mem_append_left _ h)) (fun j h=>hno j (by rw [List.flatMap_append]; exact List.mem_append_right _ h)) hR.nd
      · cases kpo with
        | none=>simp [TX.pos]
        | some q=>have:=hr.ne; simp [TX.pos,Ne.symm this]
      · rcases hin kc h with e | e
        · exact hk.1 e.symm
        · exact hkp.1 e.symm
  rcases hrun.toP with h | h
  · exact ⟨none,fin none h (by simp)⟩
  · exact ⟨some kp',fin _ h (by simp)⟩
theorem QvY (X1 X2:List TX) (t t':Tr) (k:Nat) (kp kp':Option Nat) (h:t.tx = t'.tx):Qsq (X1 ++ ⟨t',k,kp'⟩ :: X2) = Qsq (X1 ++ ⟨t,k,kp⟩ :: X2):=by
  simp [Qsq,h]
theorem Qsy {n:Nat} {T1 T2:List Tr} {t':Tr} (h:∀ t ∈ T1 ++ T2,t.P.length<=n) (h':t'.P.length<=n + 1):∀ t ∈ T1 ++ t' :: T2,t.P.length<=n + 1:=fun t ht=>by
  rcases List.mem_append.1 ht with ht | ht
  · exact Nat.le_succ_of_le (h t (List.mem_append_left _ ht))
  · rcases List.mem_cons.1 ht with rfl | ht
    · exact h'
    · exact Nat.le_succ_of_le (h t (List.mem_append_right _ ht))
theorem QAr (f:Int) (kc bt bp bu n:Nat) (hbb:bt ≠ bp/\bt ≠ bu/\bp ≠ bu) (hp:Qa) (g:MapsD) (A:Ck) (e:E) (hn:n<=9000) (htx:e.tx ≠ 0) (h:Rep f kc bt bp bu n hp g A) :
    VCallsG prog 35 [.ptr kc 0,.agg e.d] hp g (fun r h' g'=>∃ b,r = .bool b/\b = ckB f A e/\(b = true->Rep f kc bt bp bu (n + 1) h' g' (ckS f A e))):=by
  obtain ⟨X,hX,rfl,hR,hlen⟩:=h
  have hget:=QCr X e.tx
  have hfind:=QCB X e.tx
  rw [hX] at hfind
  have hpl:=QB2 hR
  cases hf:X.find? (fun y=>decide (y.t.tx = e.tx)) with
  | some x =>
    rw [hf] at hget hfind
    simp only [Option.map_some] at hget hfind
    obtain ⟨htx',X1,X2,hXe,hX1⟩:=List.find?_eq_some_iff_append.1 hf
    subst hXe
    have hxm:x ∈ X1 ++ x :: X2:=by simp
    have htx':x.t.tx = e.tx:=by simpa using htx'
    have hrx:=hR.run x hxm
    have hlx:x.t.P.length<=n:=hlen x.t (by rw [<- hX]; exact List.mem_map.2 ⟨x,hxm,rfl⟩)
    obtain ⟨n1,n2,n3,n4,n5⟩:=Qr9 hR.nd
    have hkm:x.k ∈ x.pos:=by simp [TX.pos]
    have hkc:x.k ≠ kc:=fun h=>n2 (h ▸ hkm)
    have hkpm:∀ kp,x.kp = some kp->kp ∈ x.pos:=fun kp h=>by simp [TX.pos,h]
    have hkp:x.k ≠ x.kp.getD (hp.length + 7):=by
      cases hkp:x.kp with
      | none=>have:=hrx.1; simp; omega
      | some kp=>unfold TX.pos at n1; rw [hkp] at n1; simp at n1 |-; exact n1
    have hkpc:x.kp.getD (hp.length + 7) ≠ kc:=by
      cases hkp:x.kp with
      | none=>have:=hR.hk; simp; omega
      | some kp=>exact fun h=>n2 (h ▸ hkpm kp hkp)
    have hkpl:x.kp.getD (hp.length + 7) ≠ hp.length:=by
      cases hkp:x.kp with
      | none=>simp
      | some kp=>rw [hkp] at hrx; have:=hrx.2.2.1; simp; omega
    have hkl:x.k ≠ hp.length:=by have:=hrx.1; omega
    have hsub:∀ j ∈ (X1 ++ X2).flatMap TX.pos,j < hp.length/\j ∉ x.pos:=fun j hj=>by
      rw [List.flatMap_append] at hj
      have:j ∈ (X1 ++ x :: X2).flatMap TX.pos:=by
        rw [List.flatMap_append,List.flatMap_cons]
        rcases List.mem_append.1 hj with h | h
        · exact List.mem_append_left _ h
        · exact List.mem_append_right _ (List.mem_append_right _ h)
      exact ⟨hpl j this,(List.mem_append.1 hj).elim (n3 j) (n4 j)⟩
    have hnA:∀ j,j < hp.length->j ∉ x.pos->¬ (j = x.k\/j = x.kp.getD (hp.length + 7)):=fun j hj hx h=>by
      rcases h with rfl | h
      · exact hx hkm
      · cases hkp:x.kp with
        | none=>rw [hkp] at h; simp at h; omega
        | some kp=>rw [hkp] at h; exact hx (by rw [h]; exact hkpm kp hkp)
    refine (QtJ hp kc bt bp bu hbb f e _ _ A.Pg A.U hR.hk hR.hc htx x.k (x.kp.getD (hp.length + 7)) _ x.t.ea x.t.ab x.t.en x.t.P (by omega) hget hkp hkc hkl hkpc hkpl
      (QoC hp kc bt bp bu f e _ A.Pg A.U hR.hk hR.hc x.k (x.kp.getD (hp.length + 7)) x.t.last x.t.ea x.t.ab x.t.en x.t.P hrx.ok hget hkp hkc hkpl)).mono ?_
    rintro r h' g' ⟨b,e1,e2,e3⟩
    refine ⟨b,e1,by rw [e2,ckB,if_neg htx,hfind],fun hb=>?_⟩
    obtain ⟨hfr,⟨kp',hk',hrun⟩,rfl⟩:=e3 hb
    have hR':RepX f kc bt bp bu hp (X1 ++ X2):=⟨hR.hk,hR.hc,fun y hy=>hR.run y (by rcases List.mem_append.1 hy with h | h; exact List.mem_append_left _ h; exact List.mem_append_right _ (List.mem_cons_of_mem _ h)),n5⟩
    obtain ⟨kpo,hR2⟩:=QrF (t':=⟨e.tx,e.lsn,x.t.ea,nab e x.t.ab,nen e x.t.en,QdN f e x.t.P⟩) (k:=x.k) (kp:=0) (kp':=kp') hR' hfr (hnA kc hR.hk n2) (fun j hj=>hnA j (hsub j hj).1 (hsub j hj).2) ⟨hkc,fun h=>(hsub _ h).2 hkm⟩
      ⟨by rcases hk' with rfl | h; exact hkpc; have:=hR.hk; omega,fun h=>by
        have h1:=hsub _ h
        rcases hk' with rfl | h2
        · exact hnA _ h1.1 h1.2 (.inr rfl)
        · omega⟩ hrun
    rw [ckS,if_neg htx,hfind]
    refine ⟨_,?_,?_,hR2,?_⟩
    · rw [<- hX]
      simp only [List.map_append,List.map_cons]
      exact (Qm3 _ _ _ _ (fun y hy=>by
        obtain ⟨z,hz,rfl⟩:=List.mem_map.1 hy
        have:=hX1 z hz
        simpa using this) htx').symm
    · obtain ⟨xt,xk,xkp⟩:=x
      rw [QvY X1 X2 xt _ xk xkp kpo htx']
    · rw [<- hX] at hlen |-
      simp only [List.map_append,List.map_cons] at hlen |-
      rw [Qm3 _ _ _ _ (fun y hy=>by
        obtain ⟨z,hz,rfl⟩:=List.mem_map.1 hy
        have:=hX1 z hz
        simpa using this) htx']
      exact Qsy (fun t ht=>hlen t (by rcases List.mem_append.1 ht with h | h; exact List.mem_append_left _ h; exact List.mem_append_right _ (List.mem_cons_of_mem _ h))) (Nat.le_trans (QjY f e _) (by omega))
  | none =>
    rw [hf] at hget hfind
    simp only [Option.map_none] at hget hfind
    have hno:∀ y ∈ X,y.t.tx ≠ e.tx:=fun y hy=>by
      have:=List.find?_eq_none.1 hf y hy
      simpa using this
    have hput:Qgu (Qsq X) e.tx (.ptr (hp.length + 2) 0) = Qsq X ++ [(e.tx,.ptr (hp.length + 2) 0)]:=by
      have:((Qsq X).map (·.1)).findIdx? (fun x=>decide (x = e.tx)) = none:=by
        rw [List.findIdx?_eq_none_iff]
        intro q hq
        obtain ⟨p,hp',rfl⟩:=List.mem_map.1 hq
        obtain ⟨y,hy,rfl⟩:=List.mem_map.1 hp'
        simpa using hno y hy
      exact (Qkn _ _ _ this).1
    have hget':QdA (Qgu (Qsq X) e.tx (.ptr (hp.length + 2) 0)) e.tx = some (.ptr (hp.length + 2) 0):=by rw [Qwm,if_pos rfl]
    have hkk:=hR.hk
    refine (QtJ hp kc bt bp bu hbb f e _ _ A.Pg A.U hR.hk hR.hc htx (hp.length + 2) (hp.length + 3) _ (decide (0 < e.ptx)) false false [] (by simp) hget' (by omega) (by omega) (by omega) (by omega) (by omega)
      (Qvo hp kc bt bp bu hbb f e _ A.Pg A.U hR.hk hR.hc hget (hp.length + 3))).mono ?_
    rintro r h' g' ⟨b,e1,e2,e3⟩
    refine ⟨b,e1,by rw [e2,ckB,if_neg htx,hfind],fun hb=>?_⟩
    obtain ⟨hfr,⟨kp',hk',hrun⟩,rfl⟩:=e3 hb
    have hge:hp.length<=kp':=by rcases hk' with rfl | h; omega; exact h
    obtain ⟨kpo,hR2⟩:=QrF (X1:=X) (X2:=[]) (t':=⟨e.tx,e.lsn,decide (0 < e.ptx),nab e false,nen e false,QdN f e []⟩) (k:=hp.length + 2) (kp:=0) (kp':=kp') (by rw [List.append_nil]; exact hR) hfr (by omega) (fun j hj=>by rw [List.append_nil] at hj; have:=hpl j hj; omega) ⟨by omega,fun h=>by rw [List.append_nil] at h; have:=hpl _ h; omega⟩ ⟨by omega,fun h=>by rw [List.append_nil] at h; have:=hpl _ h; omega⟩ hrun
    rw [ckS,if_neg htx,hfind]
    have hset:Qop A.T ⟨e.tx,e.lsn,decide (0 < e.ptx),nab e false,nen e false,QdN f e []⟩ = A.T ++ [⟨e.tx,e.lsn,decide (0 < e.ptx),nab e false,nen e false,QdN f e []⟩]:=QuR _ _ fun y hy=>by
      rw [<- hX] at hy
      obtain ⟨z,hz,rfl⟩:=List.mem_map.1 hy
      exact hno z hz
    refine ⟨_,?_,?_,hR2,?_⟩
    · dsimp only
      rw [hset,<- hX]
      simp
    · rw [hput]
      simp [Qsq]
    · dsimp only
      rw [hset]
      exact Qsy (T2:=[]) (by rw [List.append_nil]; exact hlen) (Nat.le_trans (QjY f e _) (by simp))
section
attribute [local go_sem] Ce.d Ch.d E.d Qjo QpV QpU QpN QpQ Qfb Qw8 Qw7 Qw6 E.q Nat.not_lt_zero
attribute [local go_sem] Lg.c
theorem QEI:QL prog 94 = some [.pv (.lit (.int .i64 0)),.pv (.lit (.map none)),.pv (.lit (.map none)),.pv (.lit (.map none))]:=by kernel_rfl
attribute [local go_sem] QEI
theorem QwK (hp:Qa) (g:MapsD) (kc:Nat) (e:E) (htx:e.tx = 0):VCallsG prog 35 [.ptr kc 0,.agg e.d] hp g (fun r h' g'=>r = .bool true/\(∃ x,h' = hp ++ [x])/\g' = g):=by
  refine Q4 (fn:=Tryz.f35) Tryz.func35 rfl (by kernel_rfl) (by simp [Tryz.f35]) (fun c=>?_)
  refine VWpG.first (Qc c) ?_
  (unfold Tryz.f35; refine rn trivial ?_)
  refine VWpG.seq ?_
  refine VWpG.first (Qc c) ?_
  refine rn @htx ?_
  refine VWpG.cond rfl (fun hZ=>?_) (fun hZ=>?_)
  · refine VWpG.plain (Qc c) ?_
    refine rn trivial ?_
    exact ⟨_,rfl⟩
  · cases hZ
theorem Rep.app {f:Int} {kc bt bp bu n:Nat} {hp:Qa} {g:MapsD} {A:Ck} (h:Rep f kc bt bp bu n hp g A) (r:Qa):Rep f kc bt bp bu n (hp ++ r) g A:=by
  obtain ⟨X,h1,h2,h3,h4⟩:=h
  refine ⟨X,h1,h2,⟨by rw [List.length_append]; have:=h3.hk; omega,by rw [QR h3.hk]; exact h3.hc,fun x hx=>(h3.run x hx).fr ((FrH.refl hp (fun _=>False)).app r) id fun _ _=>id,h3.nd⟩,h4⟩
theorem Rep.le {f:Int} {kc bt bp bu n m:Nat} {hp:Qa} {g:MapsD} {A:Ck} (h:Rep f kc bt bp bu n hp g A) (hm:n<=m):Rep f kc bt bp bu m hp g A:=by
  obtain ⟨X,h1,h2,h3,h4⟩:=h
  exact ⟨X,h1,h2,h3,fun t ht=>Nat.le_trans (h4 t ht) hm⟩
theorem QCJ (f:Int) (kc bt bp bu n:Nat) (hbb:bt ≠ bp/\bt ≠ bu/\bp ≠ bu) (hp:Qa) (g:MapsD) (A:Ck) (e:E) (hn:n<=9000) (h:Rep f kc bt bp bu n hp g A) :
    VCallsG prog 35 [.ptr kc 0,.agg e.d] hp g (fun r h' g'=>∃ b,r = .bool b/\b = ckB f A e/\(b = true->Rep f kc bt bp bu (n + 1) h' g' (ckS f A e))):=by
  by_cases htx:e.tx = 0
  · refine (QwK hp g kc e htx).mono ?_
    rintro r h' g' ⟨rfl,⟨x,rfl⟩,rfl⟩
    refine ⟨true,rfl,by rw [ckB,if_pos htx],fun _=>?_⟩
    rw [ckS,if_pos htx]
    exact (h.app _).le (Nat.le_succ n)
  · exact QAr f kc bt bp bu n hbb hp g A e hn htx h
def ckL (f:Int):Ck->List E->Bool
  | _,[]=>true
  | A,e :: r=>ckB f A e && ckL f (ckS f A e) r
def ckA (f:Int):Ck->List E->Ck
  | A,[]=>A
  | A,e :: r=>ckA f (ckS f A e) r
def Ck0:Ck:=⟨[],[],[]⟩
def QxF (x:Lg):Int:=if lgB x = true then (if ckL x.f Ck0 x.es = true then 0 else 13) else 26
theorem Qi9 (f:Int):∀ (l m:List E) (A:Ck),ckL f A (l ++ m) = (ckL f A l && ckL f (ckA f A l) m)
  | [],m,A=>by simp [ckL,ckA]
  | e :: r,m,A=>by simp only [List.cons_append,ckL,ckA,Qi9 f r m,Bool.and_assoc]
theorem QmI (f:Int):∀ (l m:List E) (A:Ck),ckA f A (l ++ m) = ckA f (ckA f A l) m
  | [],m,A=>rfl
  | e :: r,m,A=>by simp only [List.cons_append,ckA,QmI f r m]
theorem maps3 {c:Qjq} {w0 w:World} {β:Map} {hp:Qa} {a b d:Nat × QAK} (h:MapsD.At c [a,b,d] w0 w β hp):MapsD.At c [d,b,a] w0 w β hp:=by
  obtain ⟨⟨h1,h2⟩,h3⟩:=h
  refine ⟨⟨?_,fun p hp=>h2 p (by simp at hp |-; rcases hp with h | h | h<;>simp [h])⟩,h3⟩
  simp at h1 |-
  exact ⟨⟨Ne.symm h1.2,Ne.symm h1.1.2⟩,Ne.symm h1.1.1⟩
theorem WeakG.trans {γ:Type} {Γ:γ->World->World->Map->Qa->Prop} {S S' S'':St} {g g' g'':γ} (h:WeakG Γ S g S' g') (h':WeakG Γ S' g' S'' g''):WeakG Γ S g S'' g'':=fun O β a w hs=>by
  obtain ⟨β',hs'⟩:=h O β a w hs
  exact h' O β' a w hs'
theorem WeakG.maps3 {c:Qjq} {S:St} {a b d:Nat × QAK}:WeakG (Qa2 c) S [a,b,d] S [d,b,a]:=fun O β ac w hs=>⟨β,hs.defers,hs.size,hs.tm,hs.heap,hs.evo,Go.Proofs.YtepcgifhpjapkaaGreat.maps3 hs.g⟩
theorem Qi6 {l:List E} {i:Nat} (h:i < l.length):l.take (i + 1) = l.take i ++ [l.getD i E0]:=by
  rw [Qn l i h,List.take_succ_eq_append_getElem h]
theorem Qwx {l:List E} {i:Nat} (h:i < l.length):l = l.take i ++ l.getD i E0 :: l.drop (i + 1):=by
  have:=List.take_append_drop (i + 1) l
  rw [Qi6 h,List.append_assoc] at this
  exact this.symm
structure CL (x:Lg) (bt bp bu:Nat) where
  i:Nat
  hi:i<=x.es.length
  hp:Qa
  g:MapsD
  rep:Rep x.f 1 bt bp bu i hp g (ckA x.f Ck0 (x.es.take i))
  ok:ckL x.f Ck0 (x.es.take i) = true
theorem Qjb (x:Lg) (hx:x.es.length<=9223372036854775807):VCalls prog 11 [.agg x.c] [] (Ret (.int .i64 (QxF x))):=by
  refine QlN (fn:=Tryz.f11) Tryz.func11 rfl (by kernel_rfl) (by simp [Tryz.f11]) (fun c=>?_)
  have hv:=QnB x hx
  unfold Lg.c at hv
  refine VWpG.first (Qc c) ?_
  (unfold Tryz.f11; refine rn trivial ?_)
  refine VWpG.seq ?_
  refine VWpG.first (Qc c) ?_
  refine rn trivial ?_
  refine Qas hv rfl ?_
  refine rn trivial ?_
  cases hlg:lgB x
  · refine VWpG.cond rfl (fun hZ=>?_) (fun hZ=>?_)
    · refine VWpG.plain (Qc c) ?_
      refine rn trivial ?_
      rw [QxF,hlg]; rfl
    · cases hZ
  refine VWpG.cond rfl (fun hZ=>?_) (fun hZ=>?_)
  · cases hZ
  refine VWpG.plain (Qc c) ?_
  refine rn trivial ?_
  refine VWpG.seq ?_
  refine VWpG.cut1 (Qc c) 2 [0,0] ?_
  refine rn trivial ?_
  refine Qcu rfl (fun c=>by simp) (QgS rfl rfl fun bt h1=>Qdb ?_)
  refine rn trivial ?_
  refine Qcu rfl (fun c=>by simp) (QgS rfl rfl fun bp h2=>Qdb ?_)
  refine rn trivial ?_
  refine Qcu rfl (fun c=>by simp) (QgS rfl rfl fun bu h3=>?_)
  refine rn trivial ?_
  have hbb:bt ≠ bp/\bt ≠ bu/\bp ≠ bu:=⟨h2 (bt,[]) (by simp),h3 (bt,[]) (by simp),h3 (bp,[]) (by simp)⟩
  have hes:x.es.length<=4096:=(QaC hlg).2.2.1
  refine VWpG.seq ?_
  refine VWpG.first (Qc c) ?_
  refine rn trivial ?_
  refine VWpG.block ?_
  have rep0:Rep x.f 1 bt bp bu 0 [⟨25,true,[.int .i64 x.f,.pv (.sl (fz encE x.es)),.int .i64 x.d]⟩,⟨94,true,[.int .i64 x.f,.pv (.lit (.map (some bt))),.pv (.lit (.map (some bp))),.pv (.lit (.map (some bu)))]⟩] [(bt,[]),(bp,[]),(bu,[])] (ckA x.f Ck0 (x.es.take 0)):=
    ⟨[],rfl,rfl,⟨by simp,rfl,by simp,by simp⟩,by simp [ckA,Ck0]⟩
  refine VWpG.loop (fun s:CL x bt bp bu=>⟨28,2,[(19,.int .i64 s.i),(18,.int .i64 x.es.length),(17,.pv (.sl (fz encE x.es))),(3,.ptr 1 0)],s.hp⟩) (fun s=>s.g) (fun s=>x.es.length - s.i) ⟨0,Nat.zero_le _,_,_,rep0,rfl⟩ ?_ ?_
  · refine WeakG.trans (WeakG.slots (S':=⟨28,2,[(19,.int .i64 (0:Nat)),(18,.int .i64 x.es.length),(17,.pv (.sl (fz encE x.es))),(3,.ptr 1 0)],_⟩) rfl rfl ?_) WeakG.maps3
    intro p hp
    simp only [List.mem_cons,List.not_mem_nil,or_false] at hp
    rcases hp with rfl | rfl | rfl | rfl<;>exact .inl rfl
  rintro ⟨i,hi,hp,g,rep,ok⟩
  dsimp only
  refine VWpG.first (Qc c) ?_
  refine rn trivial ?_
  refine VWpG.seq ?_
  by_cases hlt:i < x.es.length
  · have hg:=Qz2 x.es i hlt
    have hd:decide ((i:Int) < x.es.length) = true:=by simp; omega
    have hrk:1 < hp.length:=by obtain ⟨X,_,_,h,_⟩:=rep; exact h.hk
    refine VWpG.cond (t:=true) (by rw [<- hd]; rfl) (fun _=>?_) (fun h=>by cases h)
    refine VWpG.plain (Qc c) ?_
    refine rn trivial ?_
    refine VWpG.seq ?_
    refine VWpG.block ?_
    refine VWpG.first (Qc c) ?_
    refine rn @hg ?_
    refine VWpG.seq ?_
    refine VWpG.cut1 (Qc c) 2 [] ?_
    refine rn trivial ?_
    refine Qep rfl rfl rfl (QCJ x.f 1 bt bp bu i hbb _ g _ (x.es.getD i E0) (by omega) (rep.app _)) ?_
    rintro r h' g' ⟨b,rfl,hb,hrep⟩
    cases b
    · (refine rn trivial ?_; try with_reducible exact ⟨⟩)
      refine VWpG.cond rfl (fun hZ=>?_) (fun hZ=>?_)
      · refine VWpG.plain (Qc c) ?_
        refine rn trivial ?_
        rw [QxF,if_pos hlg,if_neg]
        rw [Qwx hlt,Qi9,ckL,<- hb]
        simp
      · cases hZ
    · (refine rn trivial ?_; try with_reducible exact ⟨⟩)
      refine VWpG.cond rfl (fun hZ=>?_) (fun hZ=>?_)
      · cases hZ
      refine VWpG.plain (Qc c) ?_
      refine rn trivial ?_
      refine VWpG.plain (Qc c) ?_
      refine rn trivial ?_
      have hA:ckA x.f Ck0 (x.es.take (i + 1)) = ckS x.f (ckA x.f Ck0 (x.es.take i)) (x.es.getD i E0):=by rw [Qi6 hlt,QmI]; rfl
      refine ⟨⟨i + 1,hlt,h',g',by rw [hA]; exact hrep rfl,by rw [Qi6 hlt,Qi9,ok,ckL,<- hb]; rfl⟩,by dsimp only; omega,WeakG.slots rfl rfl ?_⟩
      intro p hp
      simp only [List.mem_cons,List.not_mem_nil,or_false] at hp
      rcases hp with rfl | rfl | rfl | rfl<;>exact .inl rfl
  · have hd:decide ((i:Int) < x.es.length) = false:=by simp; omega
    have hie:i = x.es.length:=by omega
    subst hie
    refine VWpG.cond (t:=false) (by rw [<- hd]; rfl) (fun h=>by cases h) (fun _=>?_)
    refine VWpG.plain (Qc c) ?_
    refine rn trivial ?_
    refine VWpG.plain (Qc c) ?_
    refine rn trivial ?_
    rw [List.take_length] at ok
    rw [QxF,if_pos hlg,if_pos ok]
end
section
attribute [local go_sem] Ce.d Ch.d E.d Lg.c QT QaO
def exE (es:List E) (i:Nat) (p:E->Bool):Bool:=!(List.range i).all fun k=>!p (es.getD k E0)
theorem Qtk {es:List E} {n:Nat} {p:E->Bool} (s:Okay n fun k=>!p (es.getD k E0)) (h:¬ s.i < n):exE es n p = false:=by unfold exE; rw [s.all h]; rfl
theorem Qi5 {es:List E} {n:Nat} {p:E->Bool} (s:Okay n fun k=>!p (es.getD k E0)) (h:s.i < n) (hp:p (es.getD s.i E0) = true):exE es n p = true:=by unfold exE; rw [Qbd h (by rw [hp]; rfl)]; rfl
theorem Qds (es:List E) (i:Nat) (p:E->Bool):exE es (i + 1) p = (exE es i p || p (es.getD i E0)):=by
  unfold exE
  rw [List.range_succ,List.all_append]
  simp [Bool.not_and]
def undp (n:Int) (x:E):Bool:=decide (x.kind = 2) && decide (x.ref = n)
def QjS (es:List E) (i:Nat) (n:Int):Bool:=exE es i (undp n)
def Qzn (tx pg sl ab:Int) (x:E):Bool:=decide (x.kind = 1) && (decide (x.tx = tx) && (decide (ab < x.lsn) && (decide (sl < 0) || decide (x.c.pg = pg) && decide (x.c.sl = sl))))
def Qt7 (es:List E) (i:Nat) (tx pg sl ab:Int) (x:E):Bool:=Qzn tx pg sl ab x && !QjS es i x.lsn
def Qjm (es:List E) (i:Nat) (tx pg sl ab:Int):Bool:=exE es i (Qt7 es i tx pg sl ab)
theorem Qkc (x:Lg) (i:Nat) (n:Int) (hi:i<=x.es.length) (hl:x.es.length<=1000000):VCalls prog 63 [.agg x.c,.int .i64 i,.int .i64 n] [] (Ret (.bool (QjS x.es i n))):=by
  refine dd Tryz.func63 ?_
  (unfold Tryz.f63; refine rn trivial ?_)
  refine Qh (fun s:Okay i (fun k=>!undp n (x.es.getD k E0))=>⟨30,0,[(7,.int .i64 s.i),(3,.ptr 0 0),(2,.int .i64 n),(1,.int .i64 i)],[⟨25,true,x.c⟩]⟩) (fun s=>i - s.i) (Okay.start _ _) (gc [0]) ?_
  intro s
  have hs:=s.hi
  by_cases hc:s.i < i
  · have hc':((s.i:Nat):Int) < i:=by omega
    have hg:=QdB x.es s.i (by omega)
    obtain ⟨e,he⟩:∃ e,x.es.getD s.i E0 = e:=⟨_,rfl⟩
    rw [he] at hg
    have F:=(And.intro @hc' @hg)
    refine rn F ?_
    repeat' (first
      | with_reducible exact ⟨⟩
      | (refine sG F ?_ ?_<;>intro hZ)
      | (refine sB F ?_ ?_<;>intro hZ))
    all_goals first
      | exact congrArg DV.bool (Qi5 (p:=undp n) s hc (by rw [he]; simp [undp, *])).symm
      | exact ⟨s.next hc (by rw [he]; simp [undp, *]),s.dec hc,(gc [0])⟩
  · have hc':¬ ((s.i:Nat):Int) < i:=by omega
    refine rn @hc' ?_
    exact congrArg DV.bool (Qtk (p:=undp n) s hc).symm
theorem QhP (x:Lg) (i:Nat) (tx pg sl ab:Int) (hi:i<=x.es.length) (hl:x.es.length<=1000000):VCalls prog 62 [.agg x.c,.int .i64 i,.int .i64 tx,.int .i64 pg,.int .i64 sl,.int .i64 ab] [] (Ret (.bool (Qjm x.es i tx pg sl ab))):=by
  refine dd Tryz.func62 ?_
  (unfold Tryz.f62; refine rn trivial ?_)
  refine Qh (fun s:Okay i (fun k=>!Qt7 x.es i tx pg sl ab (x.es.getD k E0))=>⟨66,0,[(13,.int .i64 s.i),(6,.ptr 0 0),(5,.int .i64 ab),(4,.int .i64 sl),(3,.int .i64 pg),(2,.int .i64 tx),(1,.int .i64 i)],[⟨25,true,x.c⟩]⟩) (fun s=>i - s.i) (Okay.start _ _) (gc [0]) ?_
  intro s
  have hs:=s.hi
  by_cases hc:s.i < i
  · have hc':((s.i:Nat):Int) < i:=by omega
    have hg:=QdB x.es s.i (by omega)
    have hu:=Qkc x i (x.es.getD s.i E0).lsn hi hl
    unfold Lg.c at hu
    obtain ⟨e,he⟩:∃ e,x.es.getD s.i E0 = e:=⟨_,rfl⟩
    rw [he] at hg hu
    have F:=(And.intro @hc' @hg)
    refine rn F ?_
    repeat' (first
      | with_reducible exact ⟨⟩
      | (refine sG F ?_ ?_<;>intro hZ)
      | (refine sB F ?_ ?_<;>intro hZ)
      | refine vp F (hu) ?_)
    all_goals first
      | exact congrArg DV.bool (Qi5 (p:=Qt7 x.es i tx pg sl ab) s hc (by rw [he]; simp [Qt7,Qzn, *])).symm
      | exact ⟨s.next hc (by rw [he]; simp [Qt7,Qzn, *]),s.dec hc,(gc [0])⟩
  · have hc':¬ ((s.i:Nat):Int) < i:=by omega
    refine rn @hc' ?_
    exact congrArg DV.bool (Qtk (p:=Qt7 x.es i tx pg sl ab) s hc).symm
def Qca (es:List E) (pg:Int):Nat->Int
  | 0=>0
  | k + 1=>if QeI (es.getD k E0) = true/\(es.getD k E0).c.pg = pg then (es.getD k E0).lsn else Qca es pg k
def Qku (f:Int) (es:List E) (i:Nat):Bool:=if Qca es (es.getD i E0).c.pg i = 0 then decide ((es.getD i E0).ppg < f) else decide ((es.getD i E0).ppg = Qca es (es.getD i E0).c.pg i)
theorem Qy1 (x:Lg) (i:Nat) (hi:i < x.es.length) (hl:x.es.length<=1000000):VCalls prog 38 [.agg x.c,.int .i64 i] [] (Ret (.bool (Qku x.f x.es i))):=by
  refine dd Tryz.func38 ?_
  have hgi:=QdB x.es i hi
  obtain ⟨y,hy⟩:∃ y,x.es.getD i E0 = y:=⟨_,rfl⟩
  rw [hy] at hgi
  (unfold Tryz.f38; refine rn @hgi ?_)
  refine Qh (fun s:To i=>⟨54,0,[(7,.int .i64 s.i),(6,.int .i64 (Qca x.es y.c.pg s.i)),(5,.ptr 1 0),(2,.ptr 0 0),(1,.int .i64 i)],[⟨25,true,x.c⟩,⟨60,true,y.d⟩]⟩) (fun s=>i - s.i) ⟨0,Nat.zero_le _⟩ (gc [0,1]) ?_
  rintro ⟨k,hk⟩
  dsimp only
  by_cases hc:k < i
  · have hc':((k:Nat):Int) < i:=by omega
    have hg:=QdB x.es k (by omega)
    have hch:=Qlc (x.es.getD k E0)
    have hlast:Qca x.es y.c.pg (k + 1) = if QeI (x.es.getD k E0) = true/\(x.es.getD k E0).c.pg = y.c.pg then (x.es.getD k E0).lsn else Qca x.es y.c.pg k:=rfl
    obtain ⟨e,he⟩:∃ e,x.es.getD k E0 = e:=⟨_,rfl⟩
    rw [he] at hg hch hlast
    have hch':VCalls prog 17 [.agg e.d] [] (Ret (.bool (QeI e))):=Qa9 e
    unfold E.d at hch'
    cases hce:QeI e
    · rw [hce,if_neg (by simp)] at hlast
      rw [hce] at hch'
      have F:=(And.intro @hc' @hg)
      refine rn F ?_
      repeat' (first
        | with_reducible exact ⟨⟩
        | refine vp F (hch') ?_
        | (refine Qd (id:=6) [0,1,2,3,4] [⟨[],[],5,[0,1,2,3],[6,7,8,9,10,11,12,13,14,15,16,17,18]⟩] (by kernel_rfl) (by kernel_rfl) ?_; refine rn F ?_))
      refine ⟨⟨k + 1,hc⟩,by dsimp only; omega,?_⟩
      dsimp only
      rw [hlast]
      exact (gc [0,1])
    · rw [hce] at hch' hlast
      have F:=(And.intro @hc' @hg)
      refine rn F ?_
      repeat' (first
        | with_reducible exact ⟨⟩
        | (refine sB F ?_ ?_<;>intro hZ)
        | refine vp F (hch') ?_
        | (refine Qd (id:=6) [0,1,2,3,4] [⟨[],[],5,[0,1,2,3],[6,7,8,9,10,11,12,13,14,15,16,17,18]⟩] (by kernel_rfl) (by kernel_rfl) ?_; refine rn F ?_))
      · rw [if_pos ⟨rfl,hZ⟩] at hlast
        refine ⟨⟨k + 1,hc⟩,by dsimp only; omega,?_⟩
        dsimp only
        rw [hlast]
        exact (gc [0,1])
      · rw [if_neg (fun h=>hZ h.2)] at hlast
        refine ⟨⟨k + 1,hc⟩,by dsimp only; omega,?_⟩
        dsimp only
        rw [hlast]
        exact (gc [0,1])
  · have hc':¬ ((k:Nat):Int) < i:=by omega
    have hki:k = i:=by omega
    subst hki
    have hpr:Qku x.f x.es k = if Qca x.es y.c.pg k = 0 then decide (y.ppg < x.f) else decide (y.ppg = Qca x.es y.c.pg k):=by rw [Qku,hy]
    have F:=@hc'
    refine rn F ?_
    repeat' (first
      | with_reducible exact ⟨⟩
      | (refine sB F ?_ ?_<;>intro hZ))
    · rw [hpr,if_pos hZ]
    · rw [hpr,if_neg hZ]
      exact congrArg DV.bool (Bool.beq_eq_decide_eq _ _)
def Qag (es:List E) (tx:Int):Nat->Int
  | 0=>0
  | k + 1=>if (es.getD k E0).tx = tx then (es.getD k E0).lsn else Qag es tx k
def Qft (es:List E) (tx:Int):Nat->Bool
  | 0=>false
  | k + 1=>if (es.getD k E0).tx = tx then (Qft es tx k || decide ((es.getD k E0).kind = 4)) else Qft es tx k
def Qhx (tx:Int) (x:E):Bool:=decide (x.tx = tx) && (decide (x.kind = 3) || decide (x.kind = 5))
def QeE (f tx:Int) (x:E):Bool:=decide (x.tx = tx) && (decide (0 < x.ptx) && decide (x.ptx < f))
def Qsi (f:Int) (es:List E) (i:Nat):Bool:=decide (Qag es (es.getD i E0).tx i = 0) && (decide (0 < (es.getD i E0).ptx) && decide ((es.getD i E0).ptx < f))
def txR (f:Int) (es:List E) (i:Nat):Bool:=
  if exE es i (Qhx (es.getD i E0).tx) = true then false
  else if (es.getD i E0).ptx ≠ Qag es (es.getD i E0).tx i/\Qsi f es i = false then false
  else if Qft es (es.getD i E0).tx i = true/\(es.getD i E0).kind ≠ 2/\(es.getD i E0).kind ≠ 5 then false
  else if (es.getD i E0).kind ≠ 5 then true
  else (Qft es (es.getD i E0).tx i || (Qsi f es i || exE es i (QeE f (es.getD i E0).tx))) && !Qjm es i (es.getD i E0).tx 0 (-1) 0
attribute [local go_sem] Qcz QcZ Qcf QaU Qay
theorem QyK (x:Lg) (i:Nat) (hi:i < x.es.length) (hl:x.es.length<=1000000) (y:E) (hy:x.es.getD i E0 = y) (ab ob:Bool) (rest:Code) (hr:Qct 8 (Qcz Tryz.f37) = rest) :
    VWp prog rest (QdF prog [.tmp 4] 0 (Ret (.bool ((ab || (ob || exE x.es i (QeE x.f y.tx))) && !Qjm x.es i y.tx 0 (-1) 0)))) ⟨135,0,[(10,.bool ob),(7,.bool ab),(5,.ptr 1 0),(2,.ptr 0 0),(1,.int .i64 i)],[⟨25,true,x.c⟩,⟨60,true,y.d⟩]⟩:=by
  subst hr
  refine Qs _ _ _ ?_
  (unfold Tryz.f37; refine rn trivial ?_)
  refine Qh (fun s:To i=>⟨135,0,[(12,.int .i64 s.i),(11,.bool (ob || exE x.es s.i (QeE x.f y.tx))),(7,.bool ab),(5,.ptr 1 0),(2,.ptr 0 0),(1,.int .i64 i)],[⟨25,true,x.c⟩,⟨60,true,y.d⟩]⟩) (fun s=>i - s.i) ⟨0,Nat.zero_le _⟩ ?_ ?_
  · rw [show (ob || exE x.es 0 (QeE x.f y.tx)) = ob by simp [exE]]
    exact (gc [0,1])
  rintro ⟨k,hk⟩
  dsimp only
  have hs:=Qds x.es k (QeE x.f y.tx)
  have hpe:=QhP x i y.tx 0 (-1) 0 (by omega) hl
  unfold Lg.c at hpe
  by_cases hc:k < i
  · have hc':((k:Nat):Int) < i:=by omega
    have hg:=QdB x.es k (by omega)
    obtain ⟨e,he⟩:∃ e,x.es.getD k E0 = e:=⟨_,rfl⟩
    rw [he] at hg hs
    generalize exE x.es k (QeE x.f y.tx) = q at *
    cases hoq:(ob || q)
    · skip
      have F:=(And.intro @hc' @hg)
      refine rn F ?_
      repeat' (first
        | with_reducible exact ⟨⟩
        | (refine sG F ?_ ?_<;>intro hZ)
        | (refine Qd (id:=23) [0,1,2,3,4,5,6,7,8,9,10,11,12,13,14,15,16,17,18,19,20,21,22,23,24,25,26,27,28,29,30,31] [⟨[],[],32,[],[]⟩] (by kernel_rfl) (by kernel_rfl) ?_; refine rn F ?_))
      all_goals (refine ⟨⟨k + 1,hc⟩,by dsimp only; omega,?_⟩; dsimp only; rw [hs,<- Bool.or_assoc,hoq,Bool.false_or]; first | (rw [show QeE x.f y.tx e = decide (e.ptx < x.f) by simp [QeE, *]; done]; exact (gc [0,1])) | (rw [show QeE x.f y.tx e = false by first | (simp [QeE, *]; done) | (simp [QeE, *]; omega)]; exact (gc [0,1])))
    · skip
      have F:=(And.intro @hc' @hg)
      refine rn F ?_
      repeat' (first
        | with_reducible exact ⟨⟩
        | (refine Qd (id:=23) [0,1,2,3,4,5,6,7,8,9,10,11,12,13,14,15,16,17,18,19,20,21,22,23,24,25,26,27,28,29,30,31] [⟨[],[],32,[],[]⟩] (by kernel_rfl) (by kernel_rfl) ?_; refine rn F ?_))
      all_goals (refine ⟨⟨k + 1,hc⟩,by dsimp only; omega,?_⟩; dsimp only; rw [hs,<- Bool.or_assoc,hoq,Bool.true_or]; exact (gc [0,1]))
  · have hc':¬ ((k:Nat):Int) < i:=by omega
    have hki:k = i:=by omega
    subst hki
    generalize exE x.es k (QeE x.f y.tx) = q at *
    cases ab<;>cases ob<;>cases q
    · skip
      have F:=@hc'
      (refine rn F ?_; try with_reducible exact ⟨⟩)
    · skip
      have F:=@hc'
      refine rn F ?_
      repeat' (first
        | with_reducible exact ⟨⟩
        | refine vp F (hpe) ?_)
    · skip
      have F:=@hc'
      refine rn F ?_
      repeat' (first
        | with_reducible exact ⟨⟩
        | refine vp F (hpe) ?_)
    · skip
      have F:=@hc'
      refine rn F ?_
      repeat' (first
        | with_reducible exact ⟨⟩
        | refine vp F (hpe) ?_)
    · skip
      have F:=@hc'
      refine rn F ?_
      repeat' (first
        | with_reducible exact ⟨⟩
        | refine vp F (hpe) ?_)
    · skip
      have F:=@hc'
      refine rn F ?_
      repeat' (first
        | with_reducible exact ⟨⟩
        | refine vp F (hpe) ?_)
    · skip
      have F:=@hc'
      refine rn F ?_
      repeat' (first
        | with_reducible exact ⟨⟩
        | refine vp F (hpe) ?_)
    · skip
      have F:=@hc'
      refine rn F ?_
      repeat' (first
        | with_reducible exact ⟨⟩
        | refine vp F (hpe) ?_)
end
section
attribute [local go_sem] Ce.d Ch.d E.d Lg.c QT QaO
attribute [local go_sem] Qcz QcZ Qcf QaU Qay
def txT (f:Int) (es:List E) (i:Nat) (y:E) (la:Int) (ab ob:Bool):Bool:=
  if y.ptx ≠ la/\ob = false then false
  else if ab = true/\y.kind ≠ 2/\y.kind ≠ 5 then false
  else if y.kind ≠ 5 then true
  else (ab || (ob || exE es i (QeE f y.tx))) && !Qjm es i y.tx 0 (-1) 0
theorem QyL (x:Lg) (i:Nat) (hi:i < x.es.length) (hl:x.es.length<=1000000) (y:E) (hy:x.es.getD i E0 = y) (la:Int) (ab ob:Bool) (rest:Code) (hr:Qct 5 (Qcz Tryz.f37) = rest) :
    VWp prog rest (QdF prog [.tmp 4] 0 (Ret (.bool (txT x.f x.es i y la ab ob)))) ⟨135,0,[(10,.bool ob),(7,.bool ab),(6,.int .i64 la),(5,.ptr 1 0),(2,.ptr 0 0),(1,.int .i64 i)],[⟨25,true,x.c⟩,⟨60,true,y.d⟩]⟩:=by
  have hrest:Qct 3 rest = Qct 8 (Qcz Tryz.f37):=by subst hr; rfl
  have hC:=QyK x i hi hl y hy ab ob _ hrest.symm
  refine QBm 3 ?_
  generalize hq:Qct 3 rest = rest3 at hC |-
  subst hr
  cases ab
  · cases ob
    · (unfold Tryz.f37; refine rn trivial ?_; try with_reducible exact ⟨⟩)
      refine rn F ?_
      repeat' (first
        | with_reducible exact ⟨⟩
        | (refine sG F ?_ ?_<;>intro hZ)
        | (refine sB F ?_ ?_<;>intro hZ))
      all_goals first
        | exact congrArg DV.bool (by rw [txT]; simp [*])
        | (refine ⟨⟨135,0,[(10,.bool false),(7,.bool false),(5,.ptr 1 0),(2,.ptr 0 0),(1,.int .i64 i)],[⟨25,true,x.c⟩,⟨60,true,y.d⟩]⟩,.weak (gc [0,1]),?_⟩
           rw [show txT x.f x.es i y la false false = ((false || (false || exE x.es i (QeE x.f y.tx))) && !Qjm x.es i y.tx 0 (-1) 0) by rw [txT]; simp [*]]
           exact hC)
    · (unfold Tryz.f37; refine rn trivial ?_; try with_reducible exact ⟨⟩)
      refine rn F ?_
      repeat' (first
        | with_reducible exact ⟨⟩
        | (refine sG F ?_ ?_<;>intro hZ)
        | (refine sB F ?_ ?_<;>intro hZ))
      all_goals first
        | exact congrArg DV.bool (by rw [txT]; simp [*])
        | (refine ⟨⟨135,0,[(10,.bool true),(7,.bool false),(5,.ptr 1 0),(2,.ptr 0 0),(1,.int .i64 i)],[⟨25,true,x.c⟩,⟨60,true,y.d⟩]⟩,.weak (gc [0,1]),?_⟩
           rw [show txT x.f x.es i y la false true = ((false || (true || exE x.es i (QeE x.f y.tx))) && !Qjm x.es i y.tx 0 (-1) 0) by rw [txT]; simp [*]]
           exact hC)
  · cases ob
    · (unfold Tryz.f37; refine rn trivial ?_; try with_reducible exact ⟨⟩)
      refine rn F ?_
      repeat' (first
        | with_reducible exact ⟨⟩
        | (refine sG F ?_ ?_<;>intro hZ)
        | (refine sB F ?_ ?_<;>intro hZ))
      all_goals first
        | exact congrArg DV.bool (by rw [txT]; simp [*])
        | (refine ⟨⟨135,0,[(10,.bool false),(7,.bool true),(5,.ptr 1 0),(2,.ptr 0 0),(1,.int .i64 i)],[⟨25,true,x.c⟩,⟨60,true,y.d⟩]⟩,.weak (gc [0,1]),?_⟩
           rw [show txT x.f x.es i y la true false = ((true || (false || exE x.es i (QeE x.f y.tx))) && !Qjm x.es i y.tx 0 (-1) 0) by rw [txT]; simp [*]]
           exact hC)
    · (unfold Tryz.f37; refine rn trivial ?_; try with_reducible exact ⟨⟩)
      refine rn F ?_
      repeat' (first
        | with_reducible exact ⟨⟩
        | (refine sG F ?_ ?_<;>intro hZ)
        | (refine sB F ?_ ?_<;>intro hZ))
      all_goals first
        | exact congrArg DV.bool (by rw [txT]; simp [*])
        | (refine ⟨⟨135,0,[(10,.bool true),(7,.bool true),(5,.ptr 1 0),(2,.ptr 0 0),(1,.int .i64 i)],[⟨25,true,x.c⟩,⟨60,true,y.d⟩]⟩,.weak (gc [0,1]),?_⟩
           rw [show txT x.f x.es i y la true true = ((true || (true || exE x.es i (QeE x.f y.tx))) && !Qjm x.es i y.tx 0 (-1) 0) by rw [txT]; simp [*]]
           exact hC)
end
section
attribute [local go_sem] Ce.d Ch.d E.d Lg.c QT QaO
attribute [local go_sem] Qcz QcZ Qcf QaU Qay
theorem QuV (x:Lg) (i:Nat) (hi:i < x.es.length) (hl:x.es.length<=1000000):VCalls prog 37 [.agg x.c,.int .i64 i] [] (Ret (.bool (txR x.f x.es i))):=by
  refine QbM (fn:=Tryz.f37) (c:=Qcz Tryz.f37) Tryz.func37 rfl (by kernel_rfl) (by simp [Tryz.f37]) ?_
  have hgi:=QdB x.es i hi
  obtain ⟨y,hy⟩:∃ y,x.es.getD i E0 = y:=⟨_,rfl⟩
  rw [hy] at hgi
  refine QBm 5 ?_
  have hB:=fun la ab ob=>QyL x i hi hl y hy la ab ob _ rfl
  have htx:txR x.f x.es i = if exE x.es i (Qhx y.tx) = true then false else txT x.f x.es i y (Qag x.es y.tx i) (Qft x.es y.tx i) (Qsi x.f x.es i):=by unfold txR txT; rw [hy]
  have hold:Qsi x.f x.es i = (decide (Qag x.es y.tx i = 0) && (decide (0 < y.ptx) && decide (y.ptx < x.f))):=by unfold Qsi; rw [hy]
  generalize hq:Qct 5 (Qcz Tryz.f37) = rest5 at hB |-
  clear hq
  (unfold Tryz.f37; refine rn @hgi ?_)
  refine Qh (fun s:Okay i (fun k=>!Qhx y.tx (x.es.getD k E0))=>⟨135,0,[(8,.int .i64 s.i),(7,.bool (Qft x.es y.tx s.i)),(6,.int .i64 (Qag x.es y.tx s.i)),(5,.ptr 1 0),(2,.ptr 0 0),(1,.int .i64 i)],[⟨25,true,x.c⟩,⟨60,true,y.d⟩]⟩) (fun s=>i - s.i) (Okay.start _ _) (gc [0,1]) ?_
  intro s
  have hs:=s.hi
  by_cases hc:s.i < i
  · have hc' : ((s.i:Nat):Int) < i:=by omega
    have hg:=QdB x.es s.i (by omega)
    obtain ⟨e,he⟩:∃ e,x.es.getD s.i E0 = e:=⟨_,rfl⟩
    rw [he] at hg
    have hla:Qag x.es y.tx (s.i + 1) = if e.tx = y.tx then e.lsn else Qag x.es y.tx s.i:=by rw [Qag,he]
    have hab:Qft x.es y.tx (s.i + 1) = if e.tx = y.tx then (Qft x.es y.tx s.i || decide (e.kind = 4)) else Qft x.es y.tx s.i:=by rw [Qft,he]
    generalize habq:Qft x.es y.tx s.i = abq at *
    generalize hlaq:Qag x.es y.tx s.i = laq at *
    cases abq
    · skip
      have F:=(And.intro @hc' @hg)
      refine rn F ?_
      repeat' (first
        | with_reducible exact ⟨⟩
        | (refine sG F ?_ ?_<;>intro hZ)
        | (refine sB F ?_ ?_<;>intro hZ))
      all_goals first
        | exact congrArg DV.bool (by rw [htx,if_pos (Qi5 (p:=Qhx y.tx) s hc (by rw [he]; simp [Qhx, *]))])
        | (refine ⟨s.next hc (by rw [he]; simp [Qhx, *]),s.dec hc,?_⟩
           change QpK _ ⟨135,0,[(8,.int .i64 ((s.i + 1:Nat):Int)),(7,.bool (Qft x.es y.tx (s.i + 1))),(6,.int .i64 (Qag x.es y.tx (s.i + 1))),(5,.ptr 1 0),(2,.ptr 0 0),(1,.int .i64 i)],[⟨25,true,x.c⟩,⟨60,true,y.d⟩]⟩
           rw [hla,hab]
           first
             | (rw [if_pos (by assumption),if_pos (by assumption)]; simp only [Bool.false_or,Bool.true_or]; exact (gc [0,1]))
             | (rw [if_pos (by assumption),if_pos (by assumption)]; simp only [Bool.false_or,Bool.true_or,<- Bool.beq_eq_decide_eq]; exact (gc [0,1]))
             | (rw [if_neg (by assumption),if_neg (by assumption)]; exact (gc [0,1])))
    · skip
      have F:=(And.intro @hc' @hg)
      refine rn F ?_
      repeat' (first
        | with_reducible exact ⟨⟩
        | (refine sG F ?_ ?_<;>intro hZ)
        | (refine sB F ?_ ?_<;>intro hZ))
      all_goals first
        | exact congrArg DV.bool (by rw [htx,if_pos (Qi5 (p:=Qhx y.tx) s hc (by rw [he]; simp [Qhx, *]))])
        | (refine ⟨s.next hc (by rw [he]; simp [Qhx, *]),s.dec hc,?_⟩
           change QpK _ ⟨135,0,[(8,.int .i64 ((s.i + 1:Nat):Int)),(7,.bool (Qft x.es y.tx (s.i + 1))),(6,.int .i64 (Qag x.es y.tx (s.i + 1))),(5,.ptr 1 0),(2,.ptr 0 0),(1,.int .i64 i)],[⟨25,true,x.c⟩,⟨60,true,y.d⟩]⟩
           rw [hla,hab]
           first
             | (rw [if_pos (by assumption),if_pos (by assumption)]; simp only [Bool.false_or,Bool.true_or]; exact (gc [0,1]))
             | (rw [if_pos (by assumption),if_pos (by assumption)]; simp only [Bool.false_or,Bool.true_or,<- Bool.beq_eq_decide_eq]; exact (gc [0,1]))
             | (rw [if_neg (by assumption),if_neg (by assumption)]; exact (gc [0,1])))
  · have hc':¬ ((s.i:Nat):Int) < i:=by omega
    have hki:s.i = i:=by omega
    rw [htx,if_neg (by rw [Qtk (p:=Qhx y.tx) s hc]; simp),hki]
    have hB:=hB (Qag x.es y.tx i) (Qft x.es y.tx i) (Qsi x.f x.es i)
    generalize Qft x.es y.tx i = ab at *
    generalize Qag x.es y.tx i = la at *
    have F:=trivial
    refine rn F ?_
    repeat' (first
      | with_reducible exact ⟨⟩
      | (refine sG F ?_ ?_<;>intro hZ))
    all_goals first
      | (refine ⟨⟨135,0,[(10,.bool (Qsi x.f x.es i)),(7,.bool ab),(6,.int .i64 la),(5,.ptr 1 0),(2,.ptr 0 0),(1,.int .i64 i)],[⟨25,true,x.c⟩,⟨60,true,y.d⟩]⟩,.weak ?_,hB⟩
         first
           | (have hh:Qsi x.f x.es i = decide (y.ptx < x.f):=by rw [hold]; simp [*]; done
              rw [hh]; exact (gc [0,1]))
           | (have hh:Qsi x.f x.es i = false:=by rw [hold]; simp [*]; done
              rw [hh]; exact (gc [0,1]))
           | (have hh:Qsi x.f x.es i = false:=by rw [hold]; simp [*]; intros; omega
              rw [hh]; exact (gc [0,1])))
end
theorem Qg4 (a b c d:Int):QT [.pv (.lit (.int .i64 a)),.pv (.lit (.int .i64 b))] [.pv (.lit (.int .i64 c)),.pv (.lit (.int .i64 d))] [(0,1),(1,1)] = some (decide (a = c) && decide (b = d)):=by simp [QT,QaO,Bool.beq_eq_decide_eq]
def grB (g:Gr):Bool:=decide (1<=g.tx) && decide (g.tx<=1073741824) && decide (0<=g.pg) && decide (g.pg < 64) && decide (0<=g.sl) && decide (g.sl < 16) && (decide (g.md = 1) || decide (g.md = 2))
def Qzz (a b:Gr):Bool:=if a.pg ≠ b.pg then decide (a.pg < b.pg) else if a.sl ≠ b.sl then decide (a.sl < b.sl) else decide (a.tx < b.tx)
def QCI (a b:Gr):Bool:=!decide (a.tx = b.tx) && (decide (a.pg = b.pg) && decide (a.sl = b.sl)) && (decide (a.md = 2) || decide (b.md = 2))
theorem QrB (g:Gr):VCalls prog 222 [.agg g.d] [] (Ret (.bool (grB g))):=by
  refine dd Tryz.func222 ?_
  (unfold Tryz.f222; refine rn trivial ?_)
  refine rn F ?_
  repeat' (first
    | with_reducible exact ⟨⟩
    | (refine sG F ?_ ?_<;>intro hZ))
  all_goals (first | rfl | (congr 3; rw [Bool.eq_iff_iff]; (try simp only [grB,decide_eq_true_eq,Bool.and_eq_true,Bool.or_eq_true,Bool.not_eq_true',Bool.not_eq_false',decide_eq_false_iff_not,beq_iff_eq,bne_iff_ne,ne_eq,Bool.false_eq_true,Bool.true_eq_false,iff_true,true_iff,iff_false,false_iff]); first | done | omega | grind))
theorem Qna (a b:Gr):VCalls prog 223 [.agg a.d,.agg b.d] [] (Ret (.bool (Qzz a b))):=by
  refine dd Tryz.func223 ?_
  have e:Qzz a b = if a.pg ≠ b.pg then decide (a.pg < b.pg) else if a.sl ≠ b.sl then decide (a.sl < b.sl) else decide (a.tx < b.tx):=rfl
  generalize Qzz a b = r at *
  (unfold Tryz.f223; refine rn trivial ?_)
  refine rn F ?_
  repeat' (first
    | with_reducible exact ⟨⟩
    | (refine sB F ?_ ?_<;>intro hZ))
  all_goals first | (first | (rw [e]; simp (disch:=first | assumption | omega | exact rfl | exact nf (by assumption) | exact nt (by assumption) | decide | fail) only [if_pos,if_neg]; first | done | rfl) | (rw [e]; simp (disch:=first | assumption | omega | exact rfl | exact nf (by assumption) | exact nt (by assumption) | decide | (simp_all; done) | fail) only [if_pos,if_neg]; first | done | rfl)) | skip
theorem QfO (a b:Gr):VCalls prog 202 [.agg a.d,.agg b.d] [] (Ret (.bool (QCI a b))):=by
  refine dd Tryz.func202 ?_
  (unfold Tryz.f202; refine rn trivial ?_)
  have F:=@Qg4
  refine rn F ?_
  repeat' (first
    | with_reducible exact ⟨⟩
    | (refine sG F ?_ ?_<;>intro hZ))
  all_goals (unfold QCI; simp_all [Bool.beq_eq_decide_eq])
def QA7 (tx pg sl:Int) (g:Gr):Bool:=decide (g.tx = tx) && (decide (g.pg = pg) && decide (g.sl = sl))
def QA6 (l:List Gr) (tx pg sl:Int):Int:=match l.find? (QA7 tx pg sl) with | some g=>g.md | none=>0
theorem Ql9 (t:Lk) (hs:t.held.length<=1000000) (tx pg sl:Int):VCalls prog 224 [.agg t.d,.int .i64 tx,.agg [.int .i64 pg,.int .i64 sl]] [] (Ret (.int .i64 (QA6 t.held tx pg sl))):=by
  refine dd Tryz.func224 ?_
  obtain ⟨l,w⟩:=t
  dsimp only at hs |-
  (unfold Tryz.f224; refine rn trivial ?_)
  refine Qh (fun s:Pass l (fun x=>QA7 tx pg sl x = true)=>⟨39,0,[(7,.int .i64 s.i),(5,.ptr 1 0),(3,.ptr 0 0),(1,.int .i64 tx)],[⟨34,true,[.pv (.sl (fz Qap l)),.pv (.sl (fz Qap w))]⟩,⟨197,true,[.int .i64 pg,.int .i64 sl]⟩]⟩) (fun s=>l.length - s.i) (Pass.start l _) (gc [0,1]) ?_
  intro s
  have hsi:=s.hi
  have hg:=fun h:s.i < l.length=>QaD l s.i h
  have hkey:s.i < l.length->QA7 tx pg sl (l.getD s.i Gr0) = QA7 tx pg sl (l[s.i]?.getD Gr0):=fun _=>by rw [List.getD_eq_getElem?_getD]
  have hk0:QA7 tx pg sl (l.getD s.i Gr0) = (decide ((l.getD s.i Gr0).tx = tx) && (decide ((l.getD s.i Gr0).pg = pg) && decide ((l.getD s.i Gr0).sl = sl))):=rfl
  have F:=(And.intro @hg @Qg4)
  refine rn F ?_
  repeat' (first
    | with_reducible exact ⟨⟩
    | (refine sG F ?_ ?_<;>intro hZ)
    | (refine sB F ?_ ?_<;>intro hZ)
    | (refine Qd (id:=4) [0,1,2,3,4,5,6,7,8,9,10,11,12,13,14,15,16,17] [] (by kernel_rfl) (by kernel_rfl) ?_; refine rn F ?_))
  all_goals first
    | (have h:=s.all (by omega)
       rw [QA6,List.find?_eq_none.2 h])
    | (have hlt:s.i < l.length:=by omega
       have hk:QA7 tx pg sl l[s.i] = true:=by rw [<- Qn l s.i hlt Gr0,hk0]; simp_all
       rw [Qn l s.i hlt,QA6,List.find?_eq_some_iff_getElem.2 ⟨hk,s.i,hlt,rfl,fun j hj=>by simpa using s.no l[j] (List.mem_take_iff_getElem.2 ⟨j,by omega,rfl⟩)⟩])
    | (have hlt:s.i < l.length:=by omega
       exact ⟨s.next hlt (by rw [<- Qn l s.i hlt Gr0,hk0]; simp_all),by show l.length - (s.i + 1) < l.length - s.i; omega,(gc [0,1])⟩)
    | skip
theorem QiI (l:List Gr) (hl:l.length<=100000) (tx:Int) (one:Bool) (pg sl:Int):VCalls prog 186 [.pv (.sl (fz Qap l)),.int .i64 tx,.bool one,.agg [.int .i64 pg,.int .i64 sl]] [] (QF (fun m:List Gr=>.pv (.sl (fz Qap m))) fun m=>m.length<=l.length):=by
  refine dd Tryz.func186 ?_
  (unfold Tryz.f186; refine rn trivial ?_)
  refine VLoop.nilOwn 9 222 4 rfl ?_
  refine rn trivial ?_
  refine Qh (fun s:{s:Nat × List Gr // s.1<=l.length/\s.2.length<=s.1}=>⟨44,0,[(10,.int .i64 s.1.1),(9,.own 1 4 0 s.1.2.length),(7,.ptr 0 0),(2,.bool one),(1,.int .i64 tx),(0,.pv (.sl (fz Qap l)))],[⟨197,true,[.int .i64 pg,.int .i64 sl]⟩,⟨222,true,cells Qap s.1.2⟩]⟩) (fun s=>l.length - s.1.1) ⟨(0,[]),by simp⟩ (gc [0,1]) ?_
  rintro ⟨⟨i,out⟩,hi,ho⟩
  dsimp only at hi ho |-
  have hg:=fun h:i < l.length=>QaD l i h
  have hb:(out.length + 1) * 32<=140737488355328:=by omega
  have F:=(And.intro @hg (And.intro @hb @Qg4))
  refine rn F ?_
  repeat' (first
    | with_reducible exact ⟨⟩
    | (refine sG F ?_ ?_<;>intro hZ)
    | (refine sB F ?_ ?_<;>intro hZ)
    | (refine Qd (id:=5) [0,1,2,3,4,5,6,7,8,9,10,11,12,13,14,15,16,17,18] [] (by kernel_rfl) (by kernel_rfl) ?_; refine rn F ?_))
  all_goals first
    | exact ⟨rfl,rfl,out,rfl,by omega⟩
    | exact ⟨⟨(i + 1,out),by dsimp only; omega,by dsimp only; omega⟩,by dsimp only; omega,(gc [0,1])⟩
    | exact ⟨⟨(i + 1,out ++ [⟨(l.getD i Gr0).tx,(l.getD i Gr0).pg,(l.getD i Gr0).sl,(l.getD i Gr0).md⟩]),by dsimp only; omega,by simp; omega⟩,by dsimp only; omega,by dsimp only; rw [List.length_append]; exact (gc [0,3])⟩
    | skip
theorem Qzi (t:Lk) (hs:t.held.length<=100000/\t.wait.length<=100000) (i:Nat) (hi:i < t.wait.length):VCalls prog 232 [.agg t.d,.int .i64 i] [] (QF (fun b:Bool=>.bool b) fun _=>True):=by
  refine dd Tryz.func232 ?_
  obtain ⟨l,w⟩:=t
  dsimp only at hs hi |-
  have hw:=QaD w i hi
  have c:=fun a=>QfO a (w.getD i Gr0)
  (unfold Tryz.f232; refine rn trivial ?_)
  refine Qh (fun s:To l.length=>⟨41,0,[(5,.int .i64 s.i),(2,.ptr 0 0),(1,.int .i64 i)],[⟨34,true,[.pv (.sl (fz Qap l)),.pv (.sl (fz Qap w))]⟩]⟩) (fun s=>l.length - s.i) ⟨0,Nat.zero_le _⟩ (gc [0]) ?_
  intro s
  have hsi:=s.hi
  have hg:=fun h:s.i < l.length=>QaD l s.i h
  have c1:=c (l.getD s.i Gr0)
  have F:=(And.intro @hg @hw)
  refine rn F ?_
  repeat' (first
    | with_reducible exact ⟨⟩
    | (refine sB F ?_ ?_<;>intro hZ)
    | refine vp F (c1) ?_
    | (refine Qd (id:=4) [0,1,2,3,4,5,6,7,8,9] [⟨[],[],10,[0,1,2,3,5,6,7,8],[]⟩] (by kernel_rfl) (by kernel_rfl) ?_; refine rn F ?_))
  all_goals first
    | exact ⟨rfl,rfl,_,rfl,trivial⟩
    | exact ⟨⟨s.i + 1,by omega⟩,by dsimp only; omega,(gc [0])⟩
    | skip
  refine Qh (fun s:To i=>⟨41,0,[(6,.int .i64 s.i),(2,.ptr 0 0),(1,.int .i64 i)],[⟨34,true,[.pv (.sl (fz Qap l)),.pv (.sl (fz Qap w))]⟩]⟩) (fun s=>i - s.i) ⟨0,Nat.zero_le _⟩ (gc [0]) ?_
  intro s
  have hsi:=s.hi
  have hg:=fun h:s.i < w.length=>QaD w s.i h
  have c1:=c (w.getD s.i Gr0)
  have F:=(And.intro @hg @hw)
  refine rn F ?_
  repeat' (first
    | with_reducible exact ⟨⟩
    | (refine sB F ?_ ?_<;>intro hZ)
    | refine vp F (c1) ?_
    | (refine Qd (id:=9) [0,1,2,3,4,5,6,7,8,9] [⟨[],[],10,[0,1,2,3,5,6,7,8],[]⟩] (by kernel_rfl) (by kernel_rfl) ?_; refine rn F ?_))
  all_goals first
    | exact ⟨rfl,rfl,_,rfl,trivial⟩
    | exact ⟨⟨s.i + 1,by omega⟩,by dsimp only; omega,(gc [0])⟩
    | skip
theorem Qy6 (l:List Gr) (hl:l.length<=100000) (g:Gr):VCalls prog 233 [.pv (.sl (fz Qap l)),.agg g.d] [] (QF (fun m:List Gr=>.pv (.sl (fz Qap m))) fun m=>m.length<=l.length + 1):=by
  refine dd Tryz.func233 ?_
  (unfold Tryz.f233; refine rn trivial ?_)
  refine VLoop.nilOwn 5 222 4 rfl ?_
  refine rn trivial ?_
  refine Qh (fun s:{s:Nat × List Gr × Bool // s.1<=l.length/\s.2.1.length<=s.1 + 1/\(s.2.2 = false->s.2.1.length<=s.1)}=>⟨61,0,[(7,.int .i64 s.1.1),(6,.bool s.1.2.2),(5,.own 1 4 0 s.1.2.1.length),(3,.ptr 0 0),(0,.pv (.sl (fz Qap l)))],[⟨222,true,g.d⟩,⟨222,true,cells Qap s.1.2.1⟩]⟩) (fun s=>l.length - s.1.1) ⟨(0,[],false),by simp⟩ (gc [0,1]) ?_
  rintro ⟨⟨i,out,dn⟩,hi,ho,hd⟩
  dsimp only at hi ho hd |-
  have hg:=fun h:i < l.length=>QaD l i h
  have c:=Qna (l.getD i Gr0) g
  have hb:(out.length + 1) * 32<=140737488355328:=by omega
  have hb2:(out.length + 1 + 1) * 32<=140737488355328:=Nat.le_trans (Nat.mul_le_mul_right 32 (show out.length + 1 + 1<=100003 by omega)) (by decide)
  cases dn
  all_goals
    simp only [forall_const,reduceCtorEq,false_implies] at hd
    have F:=(And.intro @hg (And.intro @hb (And.intro @hb2 @Qg4)))
    refine rn F ?_
    repeat' (first
      | with_reducible exact ⟨⟩
      | (refine sG F ?_ ?_<;>intro hZ)
      | (refine sB F ?_ ?_<;>intro hZ)
      | refine vp F (c) ?_
      | (refine Qd (id:=6) [0,1,2,3,4,5,6,7] [⟨[],[],8,[0,1,3,4,5],[9,10]⟩] (by kernel_rfl) (by kernel_rfl) ?_; refine rn F ?_)
      | (refine Qd (id:=9) [0,1,2,3,4,5,6,7,8,9,10,11,12,13,14,15,16,17] [] (by kernel_rfl) (by kernel_rfl) ?_; refine rn F ?_))
  all_goals first
    | exact ⟨rfl,rfl,out,rfl,by omega⟩
    | exact ⟨rfl,rfl,out ++ [g],rfl,by simp; omega⟩
    | exact ⟨⟨(i + 1,out,false),by dsimp only; omega,by dsimp only; (try rw [List.length_nil]); omega,by dsimp only; (try rw [List.length_nil]); first | omega | (intro h; omega) | (intro h; cases h)⟩,by dsimp only; omega,by dsimp only; (try rw [List.length_nil]); exact (gc [0,1])⟩
    | exact ⟨⟨(i + 1,out ++ [⟨(l.getD i Gr0).tx,(l.getD i Gr0).pg,(l.getD i Gr0).sl,(l.getD i Gr0).md⟩],false),by dsimp only; omega,by dsimp only; (try rw [List.length_append,List.length_cons,List.length_nil]); omega,by dsimp only; (try rw [List.length_append,List.length_cons,List.length_nil]); first | omega | (intro h; omega) | (intro h; cases h)⟩,by dsimp only; omega,by dsimp only; (try rw [List.length_append,List.length_cons,List.length_nil]); exact (gc [0,3])⟩
    | exact ⟨⟨(i + 1,out,true),by dsimp only; omega,by dsimp only; (try rw [List.length_nil]); omega,by dsimp only; (try rw [List.length_nil]); first | omega | (intro h; omega) | (intro h; cases h)⟩,by dsimp only; omega,by dsimp only; (try rw [List.length_nil]); exact (gc [0,1])⟩
    | exact ⟨⟨(i + 1,out ++ [⟨(l.getD i Gr0).tx,(l.getD i Gr0).pg,(l.getD i Gr0).sl,(l.getD i Gr0).md⟩],true),by dsimp only; omega,by dsimp only; (try rw [List.length_append,List.length_cons,List.length_nil]); omega,by dsimp only; (try rw [List.length_append,List.length_cons,List.length_nil]); first | omega | (intro h; omega) | (intro h; cases h)⟩,by dsimp only; omega,by dsimp only; (try rw [List.length_append,List.length_cons,List.length_nil]); exact (gc [0,3])⟩
    | exact ⟨⟨(i + 1,out ++ [g],true),by dsimp only; omega,by dsimp only; (try rw [List.length_append,List.length_cons,List.length_nil]); omega,by dsimp only; (try rw [List.length_append,List.length_cons,List.length_nil]); first | omega | (intro h; omega) | (intro h; cases h)⟩,by dsimp only; omega,by dsimp only; (try rw [List.length_append,List.length_cons,List.length_nil]); exact (gc [0,3])⟩
    | exact ⟨⟨(i + 1,out ++ [g] ++ [⟨(l.getD i Gr0).tx,(l.getD i Gr0).pg,(l.getD i Gr0).sl,(l.getD i Gr0).md⟩],true),by dsimp only; omega,by dsimp only; (try rw [List.length_append,List.length_append,List.length_cons,List.length_nil,List.length_cons,List.length_nil]); omega,by dsimp only; (try rw [List.length_append,List.length_append,List.length_cons,List.length_nil,List.length_cons,List.length_nil]); first | omega | (intro h; omega) | (intro h; cases h)⟩,by dsimp only; omega,by dsimp only; (try rw [List.length_append,List.length_append,List.length_cons,List.length_nil,List.length_cons,List.length_nil]); exact (gc [0,5])⟩
    | skip
section
attribute [local go_sem] Qbn
def Lk.sum (t:Lk):Nat:=t.held.length + t.wait.length
theorem Qef (t:Lk) (hs:t.sum<=5000):VCalls prog 185 [.agg t.d] [] (QF (fun u:Lk=>.agg u.d) fun u=>u.sum<=t.sum):=by
  refine dk Tryz.func185 ?_
  (unfold Tryz.f185; refine rn trivial ?_)
  refine QBe (fun s:{s:Lk × Nat // s.2<=s.1.wait.length/\s.1.sum<=t.sum}=>⟨36,0,[(3,.int .i64 s.1.2),(2,.ptr 1 0),(1,.ptr 0 0)],[⟨34,true,s.1.1.d⟩,⟨34,true,[.pv (.slc []),.pv (.slc [])]⟩]⟩) (fun s=>s.1.1.wait.length * 5001 + (s.1.1.wait.length - s.1.2)) ⟨(t,0),Nat.zero_le _,Nat.le_refl _⟩ (.inl (by exact (gc [0,1]))) ?_
  rintro ⟨⟨⟨l,w⟩,i⟩,hi,hsum⟩
  unfold Lk.sum at *
  dsimp only at hi hsum |-
  have hgx:=fun h:i < w.length=>QaD w i h
  have c1:=fun h:i < w.length=>Qzi ⟨l,w⟩ ⟨by dsimp only; omega,by dsimp only; omega⟩ i h
  have c2:=Qy6 l (by omega)
  have hb:(i + (w.length - (i + 1))) * 32<=140737488355328:=by omega
  have hb1:i * 32<=140737488355328:=by omega
  have hmin:i < w.length->min i w.length = i:=fun h=>by omega
  have F:=(And.intro @hgx (And.intro @hb (And.intro @hb1 @hmin)))
  refine rn F ?_
  repeat' (first
    | with_reducible exact ⟨⟩
    | (refine sB F ?_ ?_<;>intro hZ)
    | (refine Qk (c1 (by omega)) rfl ?_; rintro b -; refine rn F ?_)
    | (refine Qk (c2 ⟨_,_,_,_⟩) rfl ?_; rintro m hm; refine rn F ?_)
    | (refine Qd (id:=5) [0,1,2,3,4,5,6] [⟨[],[],7,[0,2,3,4,5],[8]⟩,⟨[],[],9,[],[]⟩] (by kernel_rfl) (by kernel_rfl) ?_; refine rn F ?_)
    | (refine Qd (id:=6) [0,1,2,3,5,6,7,8,9] [⟨[],[],4,[0,1,2,5,6,7,8,9],[]⟩,⟨[],[],10,[0,1,2,3,5,6,7,8],[11]⟩,⟨[],[],12,[],[]⟩] (by kernel_rfl) (by kernel_rfl) ?_; refine rn F ?_))
  · have hl:(w.take i ++ w.drop (i + 1)).length = i + (w.length - (i + 1)):=by rw [List.length_append,List.length_take,List.length_drop]; omega
    refine ⟨⟨(⟨m,w.take i ++ w.drop (i + 1)⟩,0),Nat.zero_le _,by dsimp only; rw [hl]; omega⟩,by dsimp only; rw [hl]; omega,?_⟩
    dsimp only
    generalize w.take i ++ w.drop (i + 1) = L at *
    generalize i + (w.length - (i + 1)) = n at *
    refine .inr ⟨2,⟨36,0,[(3,.int .i64 0),(2,.ptr 1 0),(1,.ptr 0 0)],[⟨34,true,[.pv (.sl (fz Qap m)),.own 2 4 0 n]⟩,⟨34,true,[.pv (.slc []),.pv (.slc [])]⟩,⟨222,true,cells Qap L⟩]⟩,(gc [0,1,3]),⟨rfl,rfl,Nat.zero_le _,by simp,?_,⟨rfl,rfl,rfl,trivial⟩⟩⟩
    (refine rn @hl ?_; try with_reducible exact ⟨⟩)
  · exact ⟨⟨(⟨l,w⟩,i + 1),by dsimp only; omega,by dsimp only; omega⟩,by dsimp only; omega,.inl (gc [0,1])⟩
  · exact ⟨rfl,rfl,⟨l,w⟩,rfl,hsum⟩
theorem Qvc (t:Lk) (hs:t.sum<=5000) (g:Gr):VCalls prog 240 [.agg t.d,.agg g.d] [] (QF (fun n:Nat=>.int .i64 n) fun n=>n<=t.wait.length):=by
  refine dd Tryz.func240 ?_
  unfold Lk.sum at hs
  have c1:=Ql9 t (by omega)
  obtain ⟨l,w⟩:=t
  dsimp only at hs c1 |-
  generalize hm:QA6 l = M at *
  (unfold Tryz.f240; refine rn trivial ?_)
  refine rn F ?_
  repeat' (first
    | with_reducible exact ⟨⟩
    | (refine sB F ?_ ?_<;>intro hZ)
    | refine vp F (c1 _ _ _) ?_)
  · exact ⟨rfl,rfl,w.length,rfl,Nat.le_refl _⟩
  refine Qh (fun s:To w.length=>⟨47,0,[(5,.int .i64 s.i),(3,.ptr 1 0),(2,.ptr 0 0)],[⟨34,true,[.pv (.sl (fz Qap l)),.pv (.sl (fz Qap w))]⟩,⟨222,true,g.d⟩]⟩) (fun s=>w.length - s.i) ⟨0,Nat.zero_le _⟩ (gc [0,1]) ?_
  intro s
  have hsi:=s.hi
  have hg:=fun h:s.i < w.length=>QaD w s.i h
  have F:=(And.intro @hg @Qg4)
  refine rn F ?_
  repeat' (first
    | with_reducible exact ⟨⟩
    | (refine sG F ?_ ?_<;>intro hZ)
    | (refine sB F ?_ ?_<;>intro hZ)
    | refine vp F (c1 _ _ _) ?_)
  all_goals first
    | exact ⟨rfl,rfl,s.i,rfl,by omega⟩
    | exact ⟨⟨s.i + 1,by omega⟩,by dsimp only; omega,(gc [0,1])⟩
    | exact ⟨rfl,rfl,w.length,rfl,Nat.le_refl _⟩
    | skip
end
theorem Qa6 (t:Lk) (hs:t.sum<=100000):VCalls prog 177 [.agg t.d] [] (QF (fun b:Bool=>.bool b) fun b=>b = true->t.sum<=1024):=by
  refine dd Tryz.func177 ?_
  unfold Lk.sum at *
  have cm:=Ql9 t (by omega)
  obtain ⟨l,w⟩:=t
  dsimp only at hs cm |-
  generalize hM:QA6 l = M at *
  (unfold Tryz.f177; refine rn trivial ?_)
  refine rn F ?_
  repeat' (first
    | with_reducible exact ⟨⟩
    | (refine sB F ?_ ?_<;>intro hZ))
  · exact ⟨rfl,rfl,false,rfl,fun h=>by cases h⟩
  refine Qh (fun s:To l.length=>⟨121,0,[(3,.int .i64 s.i),(1,.ptr 0 0)],[⟨34,true,[.pv (.sl (fz Qap l)),.pv (.sl (fz Qap w))]⟩]⟩) (fun s=>l.length - s.i) ⟨0,Nat.zero_le _⟩ (gc [0]) ?_
  rintro ⟨i,hi⟩
  dsimp only
  have hg:=fun h:i < l.length=>QaD l i h
  have hgp:=fun h:i - 1 < l.length=>QaD l (i - 1) h
  have c1:=QrB (l.getD i Gr0)
  have c2:=Qna (l.getD (i - 1) Gr0) (l.getD i Gr0)
  have c3:=fun a=>QfO a (l.getD i Gr0)
  have F:=(And.intro @hg @hgp)
  refine rn F ?_
  repeat' (first
    | with_reducible exact ⟨⟩
    | (refine sG F ?_ ?_<;>intro hZ)
    | (refine sB F ?_ ?_<;>intro hZ)
    | refine vp F (c1) ?_
    | refine vp F (c2) ?_
    | (refine QbT (id:=6) [[],[0],[],[0,1,2],[0,1,2,3],[0,1,2,3,4],[0,1,2,3,4,5],[0,1,2,3,4,5,6],[0,1,2,3,4,5,6,7],[0,1,2,3,4,5,6,7,8],[0,1,2,3,4,5,6,7,8,9],[0,1,2,3,4,5,6,7,8,9,10],[0,1,2,3,4,5,6,7,8,9,10,11],[0,1,2,3,4,5,6,7,8,9,10],[0,1,2,3,4,5,6,7,8,9,10,13],[0,1,2,3,4,5,6,7,8,9,10,11,12,13,14],[0,1,2,3,4,5,6,7,8,9,10,11,12,13,14,15],[0,1,2,3,4,5,6,7,8,9,10],[0,1,2,3,4,5,6,7,8,9,10,17],[0,1,2,3,4,5,6,7,8,9,10],[0,1,2,3,4,5,6,7,8,9,10,17,18,19],[0,1,2,3,4,5,6,7,8,9,10,17,18,19,20],[0,1,2,3,4,5,6,7,8,9,10,11,12,13,14,15,16,17,18,19,20,21],[0,1,2,3,4,5,6,7,8,9,10,11,12,13,14,15,16,17,18,19,20,21,22],[0,1,2,3,4,5,6,7,8,9,10,11,12,13,14,15,16,17,18,19,20,21,22,23],[0,1,2,3,4,5,6,7,8,9,10,11,12,13,14,15,16,17,18,19,20,21,22,23,24]] [0,1,2,3,4] [⟨[],[],5,[],[6,7,8,9,10,11,12,13,14,15,16,17,18,19,20,21]⟩,⟨[],[],22,[],[23,24,25]⟩] (by kernel_rfl) (by kernel_rfl) (by kernel_rfl) ?_; refine rn F ?_))
  all_goals first
    | exact ⟨rfl,rfl,false,rfl,fun h=>by cases h⟩
    | skip
  rotate_left 2
  · refine Qh (fun s:To w.length=>⟨121,0,[(5,.int .i64 s.i),(1,.ptr 0 0)],[⟨34,true,[.pv (.sl (fz Qap l)),.pv (.sl (fz Qap w))]⟩]⟩) (fun s=>w.length - s.i) ⟨0,Nat.zero_le _⟩ (gc [0]) ?_
    rintro ⟨j,hj⟩
    dsimp only
    have hw:=fun h:j < w.length=>QaD w j h
    have d1:=QrB (w.getD j Gr0)
    have F:=(And.intro @hw @Qg4)
    refine rn F ?_
    repeat' (first
      | with_reducible exact ⟨⟩
      | (refine sG F ?_ ?_<;>intro hZ)
      | (refine sB F ?_ ?_<;>intro hZ)
      | refine vp F (d1) ?_
      | refine vp F (cm _ _ _) ?_
      | (refine QbT (id:=17) [[],[0],[0,1],[0,1,2],[0,1,2,3],[0,1,2,3],[0,1,2,3,5],[0,1,2,3],[0,1,2,3,7],[0,1,2,3,4,5,6,7,8],[0,1,2,3],[0,1,2,3,10],[0,1,2,3,4,5,6,7,8,9,10,11],[0,1,2,3,4,5,6,7,8,9,10,11,12]] [0] [⟨[],[],1,[],[2,3,4,5,6,7,8,10,11]⟩,⟨[],[],9,[10,11],[12,13]⟩] (by kernel_rfl) (by kernel_rfl) (by kernel_rfl) ?_; refine rn F ?_))
    all_goals first
      | exact ⟨rfl,rfl,false,rfl,fun h=>by cases h⟩
      | exact ⟨rfl,rfl,true,rfl,fun _=>by omega⟩
      | skip
    all_goals
      refine Qh (fun s:To j=>⟨121,0,[(7,.int .i64 s.i),(6,.ptr 1 0),(5,.int .i64 j),(1,.ptr 0 0)],[⟨34,true,[.pv (.sl (fz Qap l)),.pv (.sl (fz Qap w))]⟩,⟨222,true,Gr.d ⟨(w.getD j Gr0).tx,(w.getD j Gr0).pg,(w.getD j Gr0).sl,(w.getD j Gr0).md⟩⟩]⟩) (fun s=>j - s.i) ⟨0,Nat.zero_le _⟩ (gc [0,1]) ?_
      rintro ⟨k,hk⟩
      dsimp only
      have hx:=fun h:k < w.length=>QaD w k h
      have F:=@hx
      refine rn F ?_
      repeat' (first
        | with_reducible exact ⟨⟩
        | (refine sB F ?_ ?_<;>intro hZ)
        | (refine Qd (id:=22) [0,1,2,3,4,5,6,7,8] [] (by kernel_rfl) (by kernel_rfl) ?_; refine rn F ?_))
    all_goals first
      | exact ⟨rfl,rfl,false,rfl,fun h=>by cases h⟩
      | exact ⟨⟨k + 1,by omega⟩,by dsimp only; omega,(gc [0,1])⟩
      | exact ⟨⟨j + 1,by omega⟩,by dsimp only; omega,(gc [0])⟩
      | skip
  all_goals
    refine Qh (fun s:To i=>⟨121,0,[(4,.int .i64 ((s.i:Int) - 1)),(3,.int .i64 i),(1,.ptr 0 0)],[⟨34,true,[.pv (.sl (fz Qap l)),.pv (.sl (fz Qap w))]⟩]⟩) (fun s=>s.i) ⟨i,Nat.le_refl _⟩ (gc [0]) ?_
    rintro ⟨r,hr⟩
    dsimp only
    have hx:=fun h:r - 1 < l.length=>QaD l (r - 1) h
    have c4:=c3 (l.getD (r - 1) Gr0)
    have F:=(And.intro @hg (And.intro @hx @Qg4))
    refine rn F ?_
    repeat' (first
      | with_reducible exact ⟨⟩
      | (refine sG F ?_ ?_<;>intro hZ)
      | (refine sB F ?_ ?_<;>intro hZ)
      | refine vp F (c4) ?_
      | (refine Qd (id:=9) [0,1,2,3,4,5,6,7,8,9,10,11,12,13,14,15,16] [] (by kernel_rfl) (by kernel_rfl) ?_; refine rn F ?_)
      | (refine Qd (id:=11) [0,1,2,3,4,5,6,7,8,9] [⟨[],[],10,[0,1,2,3,5,6,7,8],[]⟩] (by kernel_rfl) (by kernel_rfl) ?_; refine rn F ?_))
  all_goals first
    | exact ⟨rfl,rfl,false,rfl,fun h=>by cases h⟩
    | exact ⟨⟨i + 1,by omega⟩,by dsimp only; omega,(gc [0])⟩
    | (refine ⟨⟨r - 1,by omega⟩,by dsimp only; omega,?_⟩
       dsimp only
       rw [show ((r - 1:Nat):Int) - 1 = (r:Int) - 1 - 1 by omega]
       exact (gc [0]))
    | skip
theorem Qdj (t:Lk) (hs:t.sum<=5000) (tx:Int):VCalls prog 151 [.agg t.d,.int .i64 tx] [] (QF (fun a:Gr × Bool=>.tup [.agg a.1.d,.bool a.2]) fun _=>True):=by
  refine dd Tryz.func151 ?_
  have c1:=Qa6 t (by omega)
  unfold Lk.sum at *
  obtain ⟨l,w⟩:=t
  dsimp only at hs c1 |-
  (unfold Tryz.f151; refine rn trivial ?_)
  refine rn F ?_
  repeat' (first
    | with_reducible exact ⟨⟩
    | (refine sB F ?_ ?_<;>intro hZ)
    | (refine Qk (c1) rfl ?_; rintro b hb; refine rn F ?_))
  all_goals first
    | exact ⟨rfl,rfl,(Gr0,false),rfl,trivial⟩
    | skip
  refine Qh (fun s:To w.length=>⟨30,0,[(6,.int .i64 s.i),(4,.ptr 1 0),(2,.ptr 0 0),(1,.int .i64 tx)],[⟨34,true,[.pv (.sl (fz Qap l)),.pv (.sl (fz Qap w))]⟩,⟨222,true,[.int .i64 0,.int .i64 0,.int .i64 0,.int .i64 0]⟩]⟩) (fun s=>w.length - s.i) ⟨0,Nat.zero_le _⟩ (gc [0,1]) ?_
  rintro ⟨i,hi⟩
  dsimp only
  have hg:=fun h:i < w.length=>QaD w i h
  have F:=@hg
  refine rn F ?_
  repeat' (first
    | with_reducible exact ⟨⟩
    | (refine sB F ?_ ?_<;>intro hZ))
  all_goals first
    | exact ⟨⟨i + 1,by omega⟩,by dsimp only; omega,(gc [0,1])⟩
    | exact ⟨rfl,rfl,(Gr0,false),rfl,trivial⟩
    | exact ⟨rfl,rfl,(w.getD i Gr0,true),rfl,trivial⟩
    | skip
theorem Qdl (t:Lk) (hs:t.sum<=5000) (tx:Int):VCalls prog 143 [.agg t.d,.int .i64 tx] [] (QF (fun u:Lk=>.agg u.d) fun u=>u.sum<=t.sum):=by
  refine dd Tryz.func143 ?_
  have c1:=Qa6 t (by omega)
  have c4:=Qef
  unfold Lk.sum at *
  obtain ⟨l,w⟩:=t
  dsimp only at hs c1 |-
  have c2:=fun a=>QiI l (by omega) a
  have c3:=fun a=>QiI w (by omega) a
  (unfold Tryz.f143; refine rn trivial ?_)
  refine rn F ?_
  repeat' (first
    | with_reducible exact ⟨⟩
    | (refine sB F ?_ ?_<;>intro hZ)
    | (refine Qk (c1) rfl ?_; rintro b hb; refine rn F ?_)
    | (refine Qk (c2 _ _ _ _) rfl ?_; rintro m1 hm1; refine rn F ?_)
    | (refine Qk (c3 _ _ _ _) rfl ?_; rintro m2 hm2; refine rn F ?_)
    | (refine Qk (c4 ⟨_,_⟩ (by dsimp only; omega)) rfl ?_; rintro u hu; refine rn F ?_)
    | (refine Qd (id:=3) [0,1,2,3,5,6,7,8] [⟨[],[],4,[0,5,6,7,8],[]⟩,⟨[],[],9,[0,1,2,3,5],[10]⟩,⟨[],[],11,[0,1,2,3,5,6,7,8],[]⟩,⟨[],[],12,[],[]⟩] (by kernel_rfl) (by kernel_rfl) ?_; refine rn F ?_))
  all_goals first
    | exact ⟨rfl,rfl,⟨l,w⟩,rfl,Nat.le_refl _⟩
    | (exact ⟨rfl,rfl,u,rfl,by dsimp only at hu; omega⟩)
    | skip
theorem QrV (t:Lk) (hs:t.sum<=5000) (tx:Int):VCalls prog 237 [.agg t.d,.int .i64 tx] [] (QF (fun u:Lk=>.agg u.d) fun u=>u.sum<=t.sum):=by
  refine dd Tryz.func237 ?_
  have c1:=Qa6 t (by omega)
  have c4:=Qef
  unfold Lk.sum at *
  obtain ⟨l,w⟩:=t
  dsimp only at hs c1 |-
  have c3:=fun a=>QiI w (by omega) a
  (unfold Tryz.f237; refine rn trivial ?_)
  refine rn F ?_
  repeat' (first
    | with_reducible exact ⟨⟩
    | (refine sB F ?_ ?_<;>intro hZ)
    | (refine Qk (c1) rfl ?_; rintro b hb; refine rn F ?_)
    | (refine Qk (c3 _ _ _ _) rfl ?_; rintro m2 hm2; refine rn F ?_)
    | (refine Qk (c4 ⟨_,_⟩ (by dsimp only; omega)) rfl ?_; rintro u hu; refine rn F ?_)
    | (refine Qd (id:=3) [0,1,2,3,4,5] [⟨[],[],6,[0,1,2],[7]⟩,⟨[],[],8,[0,1,2,3,4,5],[]⟩,⟨[],[],9,[],[]⟩] (by kernel_rfl) (by kernel_rfl) ?_; refine rn F ?_))
  all_goals first
    | exact ⟨rfl,rfl,⟨l,w⟩,rfl,Nat.le_refl _⟩
    | (exact ⟨rfl,rfl,u,rfl,by dsimp only at hu; omega⟩)
    | skip
theorem QrP (t:Lk) (hs:t.sum<=5000) (tx pg sl:Int):VCalls prog 190 [.agg t.d,.int .i64 tx,.agg [.int .i64 pg,.int .i64 sl]] [] (QF (fun u:Lk=>.agg u.d) fun u=>u.sum<=t.sum):=by
  refine dd Tryz.func190 ?_
  have c1:=Qa6 t (by omega)
  have c4:=Qef
  unfold Lk.sum at *
  obtain ⟨l,w⟩:=t
  dsimp only at hs c1 |-
  have c2:=fun a=>QiI l (by omega) a
  (unfold Tryz.f190; refine rn trivial ?_)
  refine rn F ?_
  repeat' (first
    | with_reducible exact ⟨⟩
    | (refine sB F ?_ ?_<;>intro hZ)
    | (refine Qk (c1) rfl ?_; rintro b hb; refine rn F ?_)
    | (refine Qk (c2 _ _ _ _) rfl ?_; rintro m1 hm1; refine rn F ?_)
    | (refine Qk (c4 ⟨_,_⟩ (by dsimp only; omega)) rfl ?_; rintro u hu; refine rn F ?_)
    | (refine Qd (id:=3) [0,1,2,3,5,6] [⟨[],[],4,[0,5,6],[7]⟩,⟨[],[],8,[0,1,2,3,5,6],[]⟩,⟨[],[],9,[],[]⟩] (by kernel_rfl) (by kernel_rfl) ?_; refine rn F ?_))
  all_goals first
    | exact ⟨rfl,rfl,⟨l,w⟩,rfl,Nat.le_refl _⟩
    | (exact ⟨rfl,rfl,u,rfl,by dsimp only at hu; omega⟩)
    | skip
def QEl (a:Lk × Bool × Int):DV:=.tup [.agg a.1.d,.bool a.2.1,.int .i64 a.2.2]
def Lk0:Lk:=⟨[],[]⟩
theorem QtX (a b c d a' b' c' d':Int):QT [.pv (.lit (.int .i64 a)),.pv (.lit (.int .i64 b)),.pv (.lit (.int .i64 c)),.pv (.lit (.int .i64 d))] [.pv (.lit (.int .i64 a')),.pv (.lit (.int .i64 b')),.pv (.lit (.int .i64 c')),.pv (.lit (.int .i64 d'))] [(0,1),(1,1),(2,1),(3,1)] = some (decide (a = a') && decide (b = b') && decide (c = c') && decide (d = d')):=by simp [QT,QaO,Bool.beq_eq_decide_eq,Bool.and_assoc]
theorem Qoz (t:Lk) (hs:t.sum<=4000) (g:Gr):VCalls prog 198 [.agg t.d,.agg g.d] [] (QF QEl fun a=>a.1.sum<=1024):=by
  refine dk Tryz.func198 ?_
  have c1:=Qa6 t (by omega)
  have c2:=QrB g
  have c3:=Qdj t (by omega) g.tx
  have c4:=Qef
  have c5:=Qvc t (by omega) g
  have c6:=fun (u:Lk) (h:u.held.length<=1000000)=>Ql9 u h
  unfold Lk.sum at *
  obtain ⟨l,w⟩:=t
  dsimp only at hs c1 c5 |-
  generalize QA6 = M at *
  (unfold Tryz.f198; refine rn trivial ?_)
  have F:=@QtX
  refine rn F ?_
  repeat' (first
    | with_reducible exact ⟨⟩
    | (refine sG F ?_ ?_<;>intro hZ)
    | (refine sB F ?_ ?_<;>intro hZ)
    | (refine Qk (c1) rfl ?_; rintro b hb; refine rn F ?_)
    | refine vp F (c2) ?_
    | (refine Qk (c3) rfl ?_; rintro ⟨g0,b0⟩ -; refine rn F ?_)
    | (refine vp F (c6 ⟨_,_⟩ (by first | (dsimp only; omega) | (dsimp only at hu |-; simp only [List.length_append,List.length_take,List.length_drop,List.length_cons,List.length_nil] at hu; omega)) _ _ _) ?_)
    | (refine Qk (c5) rfl ?_; rintro n hn; refine rn F ?_)
    | (refine Qiv [7] _ _ (c4 ⟨l,w.take n ++ [⟨g.tx,g.pg,g.sl,g.md⟩] ++ w.drop n⟩ (by dsimp only; simp only [List.length_append,List.length_take,List.length_drop,List.length_cons,List.length_nil]; omega)) rfl ⟨⟨by simp,Qr _ _ _⟩,trivial⟩ (by decide) rfl (by simp [DV.nums.go,DV.nums]) ?_ ?_; (focus (refine rd F)); rintro ⟨ul,uw⟩ hu; refine rn F ?_)
    | (refine Qd (id:=10) [0,1,2,3,4,6,7] [⟨[],[],5,[1,3,6,7],[8]⟩] (by kernel_rfl) (by kernel_rfl) ?_; refine rn F ?_)
    | (refine Qd (id:=15) [0,1,2,3,5,8,9,10,11] [⟨[6],[],4,[0,1,2,5,8,9,10,11],[]⟩,⟨[6],[6],7,[0,1,2,3,5,8,9,10,11],[]⟩,⟨[],[],12,[0,1,2,3,5,8,9,10],[13]⟩,⟨[],[],14,[],[]⟩] (by kernel_rfl) (by kernel_rfl) ?_; refine rn F ?_)
    | (refine Qd (id:=17) [0,1,2,3,4,5,7,8] [⟨[],[],6,[0,2,4,7,8],[9]⟩,⟨[],[],10,[1,2,3,4,5,7,8,9],[]⟩,⟨[],[],11,[],[]⟩,⟨[],[],12,[],[]⟩] (by kernel_rfl) (by kernel_rfl) ?_; refine rn F ?_))
  all_goals first
    | exact ⟨rfl,rfl,(⟨ul,uw⟩,_,_),rfl,by have:=hb (by first | assumption | rfl); dsimp only [List.length_append] at hu |-; simp only [List.length_append,List.length_take,List.length_drop,List.length_cons,List.length_nil] at hu; omega⟩
    | exact ⟨rfl,rfl,(Lk0,false,_),rfl,by simp [Lk0]⟩
    | exact ⟨rfl,rfl,(⟨l,w⟩,_,_),rfl,hb (by first | assumption | rfl)⟩
    | skip
attribute [go_sem] QDp QDg QDf Qlk
@[go_sem] def ilD (l:List Int):DV:=.pv (.sl (fz Q0 l))
theorem Ql4 (l:List Int) (hl:l.length<=100000) (n:Int):VCalls prog 203 [.pv (.sl (fz Q0 l)),.int .i64 n] [] (QF ilD fun m=>m.length<=l.length + 1):=by
  refine dd Tryz.func203 ?_
  (unfold Tryz.f203; refine rn trivial ?_)
  refine VLoop.nilOwn 5 3 1 rfl ?_
  refine rn trivial ?_
  refine Qh (fun s:{s:Nat × List Int × Bool // s.1<=l.length/\s.2.1.length<=s.1 + 1/\(s.2.2 = false->s.2.1.length<=s.1)}=>⟨48,0,[(7,.int .i64 s.1.1),(6,.bool s.1.2.2),(5,.own 0 1 0 s.1.2.1.length),(1,.int .i64 n),(0,.pv (.sl (fz Q0 l)))],[⟨3,true,cells Q0 s.1.2.1⟩]⟩) (fun s=>l.length - s.1.1) ⟨(0,[],false),by simp⟩ (gc [0]) ?_
  rintro ⟨⟨i,out,dn⟩,hi,ho,hd⟩
  dsimp only at hi ho hd |-
  have hg:=fun h:i < l.length=>QZ l i h
  have hb:(out.length + 1) * 8<=140737488355328:=Nat.le_trans (Nat.mul_le_mul_right 8 (show out.length + 1<=100003 by omega)) (by decide)
  have hb2:(out.length + 1 + 1) * 8<=140737488355328:=Nat.le_trans (Nat.mul_le_mul_right 8 (show out.length + 1 + 1<=100003 by omega)) (by decide)
  cases dn
  all_goals
    simp only [forall_const,reduceCtorEq,false_implies] at hd
    have F:=(And.intro @hg (And.intro @hb @hb2))
    refine rn F ?_
    repeat' (first
      | with_reducible exact ⟨⟩
      | (refine sB F ?_ ?_<;>intro hZ))
  all_goals first
    | exact ⟨rfl,rfl,out,rfl,by omega⟩
    | exact ⟨rfl,rfl,out ++ [n],rfl,by simp; omega⟩
    | exact ⟨⟨(i + 1,out,false),by dsimp only; omega,by dsimp only; (try rw [List.length_nil]); omega,by dsimp only; (try rw [List.length_nil]); first | omega | (intro h; omega) | (intro h; cases h)⟩,by dsimp only; omega,by dsimp only; (try rw [List.length_nil]); exact (gc [0])⟩
    | exact ⟨⟨(i + 1,out ++ [l.getD i 0],false),by dsimp only; omega,by dsimp only; (try rw [List.length_append,List.length_cons,List.length_nil]); omega,by dsimp only; (try rw [List.length_append,List.length_cons,List.length_nil]); first | omega | (intro h; omega) | (intro h; cases h)⟩,by dsimp only; omega,by dsimp only; (try rw [List.length_append,List.length_cons,List.length_nil]); exact (gc [2])⟩
    | exact ⟨⟨(i + 1,out,true),by dsimp only; omega,by dsimp only; (try rw [List.length_nil]); omega,by dsimp only; (try rw [List.length_nil]); first | omega | (intro h; omega) | (intro h; cases h)⟩,by dsimp only; omega,by dsimp only; (try rw [List.length_nil]); exact (gc [0])⟩
    | exact ⟨⟨(i + 1,out ++ [l.getD i 0],true),by dsimp only; omega,by dsimp only; (try rw [List.length_append,List.length_cons,List.length_nil]); omega,by dsimp only; (try rw [List.length_append,List.length_cons,List.length_nil]); first | omega | (intro h; omega) | (intro h; cases h)⟩,by dsimp only; omega,by dsimp only; (try rw [List.length_append,List.length_cons,List.length_nil]); exact (gc [2])⟩
    | exact ⟨⟨(i + 1,out ++ [n],true),by dsimp only; omega,by dsimp only; (try rw [List.length_append,List.length_cons,List.length_nil]); omega,by dsimp only; (try rw [List.length_append,List.length_cons,List.length_nil]); first | omega | (intro h; omega) | (intro h; cases h)⟩,by dsimp only; omega,by dsimp only; (try rw [List.length_append,List.length_cons,List.length_nil]); exact (gc [2])⟩
    | exact ⟨⟨(i + 1,out ++ [n] ++ [l.getD i 0],true),by dsimp only; omega,by dsimp only; (try rw [List.length_append,List.length_append,List.length_cons,List.length_nil,List.length_cons,List.length_nil]); omega,by dsimp only; (try rw [List.length_append,List.length_append,List.length_cons,List.length_nil,List.length_cons,List.length_nil]); first | omega | (intro h; omega) | (intro h; cases h)⟩,by dsimp only; omega,by dsimp only; (try rw [List.length_append,List.length_append,List.length_cons,List.length_nil,List.length_cons,List.length_nil]); exact (gc [4])⟩
    | skip
theorem Qow (t:Lk) (hs:t.sum<=5000):VCalls prog 242 [.agg t.d] [] (QF ilD fun m=>m.length<=t.sum):=by
  refine dk Tryz.func242 ?_
  have c1:=Qa6 t (by omega)
  unfold Lk.sum at *
  obtain ⟨l,w⟩:=t
  dsimp only at hs c1 |-
  (unfold Tryz.f242; refine rn trivial ?_)
  refine rn F ?_
  repeat' (first
    | with_reducible exact ⟨⟩
    | (refine sB F ?_ ?_<;>intro hZ)
    | (refine Qk (c1) rfl ?_; rintro b -; refine rn F ?_))
  all_goals first
    | exact ⟨rfl,rfl,[],rfl,by simp⟩
    | skip
  refine VLoop.wkS ?_
  refine rn trivial ?_
  refine Qh (fun s:{s:Nat × List Int // s.1<=w.length/\s.2.length<=s.1}=>⟨23,0,[(4,.int .i64 s.1.1),(3,.pv (.sl (fz Q0 s.1.2))),(1,.ptr 0 0)],[⟨34,true,[.pv (.sl (fz Qap l)),.pv (.sl (fz Qap w))]⟩]⟩) (fun s=>w.length - s.1.1) ⟨(0,[]),by simp⟩ (gc [0]) ?_
  rintro ⟨⟨i,out⟩,hi,ho⟩
  dsimp only at hi ho |-
  have hg:=fun h:i < w.length=>QaD w i h
  have c2:=Ql4 out (by omega)
  have F:=@hg
  refine rn F ?_
  repeat' (first
    | with_reducible exact ⟨⟩
    | (refine sB F ?_ ?_<;>intro hZ)
    | (refine Qk (c2 _) rfl ?_; rintro m hm; refine rn F ?_))
  all_goals first
    | exact ⟨⟨(i + 1,m),by dsimp only; omega,by dsimp only; omega⟩,by dsimp only; omega,(gc [0])⟩
    | exact ⟨rfl,rfl,out,rfl,by omega⟩
    | skip
theorem Qne (t:Lk) (hs:t.sum<=5000) (tx:Int):VCalls prog 152 [.agg t.d,.int .i64 tx] [] (QF ilD fun m=>m.length<=t.sum):=by
  refine dk Tryz.func152 ?_
  have c1:=Qdj t (by omega) tx
  unfold Lk.sum at *
  obtain ⟨l,w⟩:=t
  dsimp only at hs c1 |-
  (unfold Tryz.f152; refine rn trivial ?_)
  refine rn F ?_
  repeat' (first
    | with_reducible exact ⟨⟩
    | (refine sB F ?_ ?_<;>intro hZ)
    | (refine Qk (c1) rfl ?_; rintro ⟨g,b⟩ -; refine rn F ?_))
  all_goals first
    | exact ⟨rfl,rfl,[],rfl,by simp⟩
    | skip
  refine VLoop.wkS ?_
  refine rn trivial ?_
  refine Qh (fun s:{s:Nat × List Int // s.1<=l.length/\s.2.length<=s.1}=>⟨73,0,[(8,.int .i64 s.1.1),(7,.pv (.sl (fz Q0 s.1.2))),(5,.ptr 1 0),(2,.ptr 0 0),(1,.int .i64 tx)],[⟨34,true,[.pv (.sl (fz Qap l)),.pv (.sl (fz Qap w))]⟩,⟨222,true,g.d⟩]⟩) (fun s=>l.length - s.1.1) ⟨(0,[]),by simp⟩ (gc [0,1]) ?_
  rintro ⟨⟨i,out⟩,hi,ho⟩
  dsimp only at hi ho |-
  have hg:=fun h:i < l.length=>QaD l i h
  have c2:=Ql4 out (by omega)
  have c3:=QfO (l.getD i Gr0) g
  have F:=@hg
  refine rn F ?_
  repeat' (first
    | with_reducible exact ⟨⟩
    | (refine sB F ?_ ?_<;>intro hZ)
    | refine vp F (c3) ?_
    | (refine Qk (c2 _) rfl ?_; rintro m hm; refine rn F ?_)
    | (refine Qd (id:=8) [0,1,2,3,4,5] [⟨[],[],6,[0,1,2,3],[]⟩] (by kernel_rfl) (by kernel_rfl) ?_; refine rn F ?_))
  all_goals first
    | exact ⟨⟨(i + 1,m),by dsimp only; omega,by dsimp only; omega⟩,by dsimp only; omega,(gc [0,1])⟩
    | exact ⟨⟨(i + 1,out),by dsimp only; omega,by dsimp only; omega⟩,by dsimp only; omega,(gc [0,1])⟩
    | skip
  clear c2 c3 hg
  refine Qh (fun s:{s:Nat × List Int // s.1<=w.length/\s.2.length<=l.length + s.1}=>⟨73,0,[(9,.int .i64 s.1.1),(7,.pv (.sl (fz Q0 s.1.2))),(5,.ptr 1 0),(2,.ptr 0 0),(1,.int .i64 tx)],[⟨34,true,[.pv (.sl (fz Qap l)),.pv (.sl (fz Qap w))]⟩,⟨222,true,g.d⟩]⟩) (fun s=>w.length - s.1.1) ⟨(0,out),by dsimp only; omega⟩ (gc [0,1]) ?_
  rintro ⟨⟨j,o2⟩,hj,ho2⟩
  dsimp only at hj ho2 |-
  have hg:=fun h:j < w.length=>QaD w j h
  have c2:=Ql4 o2 (by omega)
  have c3:=QfO (w.getD j Gr0) g
  have F:=@hg
  refine rn F ?_
  repeat' (first
    | with_reducible exact ⟨⟩
    | (refine sG F ?_ ?_<;>intro hZ)
    | (refine sB F ?_ ?_<;>intro hZ)
    | refine vp F (c3) ?_
    | (refine Qk (c2 _) rfl ?_; rintro m hm; refine rn F ?_)
    | (refine Qd (id:=13) [0,1,2,3,4,5] [⟨[],[],6,[0,1,2,3],[]⟩] (by kernel_rfl) (by kernel_rfl) ?_; refine rn F ?_))
  all_goals first
    | exact ⟨⟨(j + 1,m),by dsimp only; omega,by dsimp only; omega⟩,by dsimp only; omega,(gc [0,1])⟩
    | exact ⟨⟨(j + 1,o2),by dsimp only; omega,by dsimp only; omega⟩,by dsimp only; omega,(gc [0,1])⟩
    | exact ⟨rfl,rfl,o2,rfl,by omega⟩
    | skip
theorem Qvt (l:List Int):VCalls prog 244 [.pv (.sl (fz Q0 l))] [] (QF (fun n:Int=>.int .i64 n) fun _=>True):=by
  refine dd Tryz.func244 ?_
  have hg:=fun h:0 < l.length=>QZ l 0 h
  (unfold Tryz.f244; refine rn trivial ?_)
  have F:=@hg
  refine rn F ?_
  repeat' (first
    | with_reducible exact ⟨⟩
    | (refine sB F ?_ ?_<;>intro hZ))
  all_goals first
    | exact ⟨rfl,rfl,_,rfl,trivial⟩
    | skip
theorem QrT (t:Lk) (hs:t.sum<=5000) (n:Nat) (hn:n<=5000):∀ (k:Nat) (way:List Int),0 < way.length->way.length + k = n->VCalls prog 243 [.agg t.d,.pv (.sl (fz Q0 way)),.int .i64 n] [] (QF ilD fun m=>m.length<=5000):=by
  intro k
  induction k with
  | zero =>
    intro way h0 hk
    refine dk Tryz.func243 ?_
    have c1:=Qne t hs
    have hg:=QZ way (way.length - 1) (by omega)
    have hg0:=QZ way 0 h0
    obtain rfl:n = way.length:=by omega
    (unfold Tryz.f243; refine rn trivial ?_)
    have F:=@hg
    refine rn F ?_
    repeat' (first
      | with_reducible exact ⟨⟩
      | (refine Qk (c1 _) rfl ?_; rintro m hm; refine rn F ?_)
      | (refine Qd (id:=1) [0,1,2,3,4,5,6] [⟨[],[],7,[1,2,3,4,5],[]⟩,⟨[],[],8,[],[]⟩] (by kernel_rfl) (by kernel_rfl) ?_; refine rn F ?_))
    refine Qh (fun s:To m.length=>⟨74,0,[(30,.int .i64 s.i),(29,.int .i64 m.length),(28,.pv (.sl (fz Q0 m))),(1,.pv (.sl (fz Q0 way)))],[]⟩) (fun s=>m.length - s.i) ⟨0,Nat.zero_le _⟩ (gc []) ?_
    rintro ⟨i,hi⟩
    dsimp only
    have hx:=fun h:i < m.length=>QZ m i h
    have F:=(And.intro @hx @hg0)
    refine rn F ?_
    repeat' (first
      | with_reducible exact ⟨⟩
      | (refine sB F ?_ ?_<;>intro hZ))
    all_goals first
      | exact ⟨⟨i + 1,by omega⟩,by dsimp only; omega,(gc [])⟩
      | exact ⟨rfl,rfl,way,rfl,by omega⟩
      | exact ⟨rfl,rfl,[],rfl,by simp⟩
      | skip
  | succ k ih =>
    intro way h0 hk
    refine dk Tryz.func243 ?_
    have c1:=Qne t hs
    have hg:=QZ way (way.length - 1) (by omega)
    obtain rfl:n = way.length + (k + 1):=by omega
    have hne:¬ (way.length:Int) = ((way.length + (k + 1):Nat):Int):=by omega
    (unfold Tryz.f243; refine rn trivial ?_)
    have F:=(And.intro @hg @hne)
    refine rn F ?_
    repeat' (first
      | with_reducible exact ⟨⟩
      | (refine Qk (c1 _) rfl ?_; rintro m hm; refine rn F ?_)
      | (refine Qd (id:=1) [0,1,2,3,4,5,6] [⟨[],[],7,[1,2,3,4,5],[]⟩,⟨[],[],8,[],[]⟩] (by kernel_rfl) (by kernel_rfl) ?_; refine rn F ?_))
    refine Qh (fun s:To m.length=>⟨74,0,[(43,.int .i64 s.i),(42,.int .i64 m.length),(41,.pv (.sl (fz Q0 m))),(3,.ptr 0 0),(2,.int .i64 (way.length + (k + 1):Nat)),(1,.pv (.sl (fz Q0 way)))],[⟨34,true,t.d⟩]⟩) (fun s=>m.length - s.i) ⟨0,Nat.zero_le _⟩ (gc [0]) ?_
    rintro ⟨i,hi⟩
    dsimp only
    have hx:=fun h:i < m.length=>QZ m i h
    have F:=@hx
    refine rn F ?_
    repeat' (first
      | with_reducible exact ⟨⟩
      | (refine sB F ?_ ?_<;>intro hZ))
    rotate_left
    · exact ⟨rfl,rfl,[],rfl,by simp⟩
    generalize hv:m.getD i 0 = v at *
    refine Qh (fun s:{s:Nat × Bool // s.1<=way.length}=>⟨74,0,[(49,.int .i64 s.1.1),(48,.int .i64 way.length),(47,.pv (.sl (fz Q0 way))),(43,.int .i64 i),(42,.int .i64 m.length),(41,.pv (.sl (fz Q0 m))),(12,.bool s.1.2),(11,.int .i64 v),(3,.ptr 0 0),(2,.int .i64 (way.length + (k + 1):Nat)),(1,.pv (.sl (fz Q0 way)))],[⟨34,true,t.d⟩]⟩) (fun s=>way.length - s.1.1) ⟨(0,false),Nat.zero_le _⟩ (gc [0]) ?_
    rintro ⟨⟨j,sn⟩,hj⟩
    dsimp only at hj |-
    have hy:=fun h:j < way.length=>QZ way j h
    have hb:(way.length + 1) * 8<=140737488355328:=Nat.le_trans (Nat.mul_le_mul_right 8 (show way.length + 1<=100003 by omega)) (by decide)
    have hb2:way.length * 8<=140737488355328:=Nat.le_trans (Nat.mul_le_mul_right 8 (show way.length<=100003 by omega)) (by decide)
    have ih2:=ih (way ++ [v]) (by simp) (by simp; omega)
    have F:=(And.intro @hy (And.intro @hb @hb2))
    refine rn F ?_
    repeat' (first
      | with_reducible exact ⟨⟩
      | (refine sG F ?_ ?_<;>intro hZ)
      | (refine sB F ?_ ?_<;>intro hZ)
      | (refine Qiv [3] _ _ (ih2) rfl ⟨⟨by simp,Qr _ _ _⟩,trivial⟩ (by decide) rfl (by simp [DV.nums.go,DV.nums]) ?_ ?_; (focus (refine rd F)); rintro m2 hm2; refine rn F ?_)
      | (refine Qd (id:=20) [0,1,3,6] [⟨[4],[],2,[0,3,6],[]⟩,⟨[4],[4],5,[0,1,3,6],[]⟩,⟨[],[],7,[1,3],[]⟩,⟨[],[],8,[],[]⟩] (by kernel_rfl) (by kernel_rfl) ?_; refine rn F ?_))
    all_goals first
      | exact ⟨⟨(j + 1,v == way.getD j 0),by dsimp only; omega⟩,by dsimp only; omega,(gc [0])⟩
      | exact ⟨⟨(j + 1,true),by dsimp only; omega⟩,by dsimp only; omega,(gc [0])⟩
      | exact ⟨⟨i + 1,by omega⟩,by dsimp only; omega,(gc [0])⟩
      | exact ⟨rfl,rfl,m2,rfl,hm2⟩
      | skip
theorem Qvw (t:Lk) (hs:t.sum<=5000) (tx:Int):VCalls prog 200 [.agg t.d,.int .i64 tx] [] (QF ilD fun m=>m.length<=5000):=by
  refine dk Tryz.func200 ?_
  have c1:=Qow t hs
  (unfold Tryz.f200; refine rn trivial ?_)
  refine Qh (fun s:{s:Nat // 1<=s/\s<=t.sum + 1}=>⟨23,0,[(5,.int .i64 s.1),(2,.ptr 0 0),(1,.int .i64 tx)],[⟨34,true,t.d⟩]⟩) (fun s=>t.sum + 1 - s.1) ⟨1,by omega⟩ (gc [0]) ?_
  rintro ⟨i,hi⟩
  dsimp only
  have c2:=fun (h:i<=5000)=>QrT t hs i h (i - 1) [tx] (by simp) (by simp; omega)
  refine rn F ?_
  repeat' (first
    | with_reducible exact ⟨⟩
    | (refine sB F ?_ ?_<;>intro hZ)
    | (refine Qk (c1) rfl ?_; rintro m hm; refine rn F ?_))
  · rw [show ([.pv (.lit (.int .i64 tx))]:List DV) = cells Q0 [tx] from rfl]
    refine Qiv [1] _ _ (c2 (by omega)) rfl ⟨⟨by simp,Qr _ _ _⟩,trivial⟩ (by decide) rfl (by simp [DV.nums.go,DV.nums]) ?_ ?_
    · (refine rn trivial ?_; try with_reducible exact ⟨⟩)
    intro m2 hm2
    refine rn F ?_
    repeat' (first
      | with_reducible exact ⟨⟩
      | (refine sB F ?_ ?_<;>intro hZ))
    · exact ⟨rfl,rfl,m2,rfl,hm2⟩
    · exact ⟨⟨i + 1,by omega⟩,by dsimp only; omega,(gc [0])⟩
  · exact ⟨rfl,rfl,[],rfl,by simp⟩
def QgH (x:Lg):Int:=if lgB x = true then x.end_ else 0
theorem QfL (x:Lg) (hx:x.es.length<=9223372036854775807):VCalls prog 13 [.agg x.c] [] (Ret (.int .i64 (QgH x))):=by
  refine dd Tryz.func13 ?_
  have c1:=Qad x hx
  have c2:=Qgp x
  have hh:=@QaC x
  simp only [Lg.hd] at hh
  unfold QgH
  generalize lgB x = b at *
  cases b
  · (unfold Tryz.f13; refine rn trivial ?_; try with_reducible exact ⟨⟩)
    refine rn F ?_
    repeat' (first
      | with_reducible exact ⟨⟩
      | refine vp F (c1) ?_)
    all_goals rfl
  · replace hh:=hh rfl
    (unfold Tryz.f13; refine rn trivial ?_)
    refine rn F ?_
    repeat' (first
      | with_reducible exact ⟨⟩
      | refine vp F (c1) ?_
      | refine vp F (c2 (by omega) (by omega)) ?_)
    all_goals rfl
theorem QrX (x:Lg) (hx:x.es.length<=9223372036854775807) (e:E):VCalls prog 169 [.agg x.c,.agg e.d] [] (Ret (QCT (Qd2 x e))):=by
  refine dk Tryz.func169 ?_
  have c1:=Qad x hx
  have c2:=Qgp x
  have c3:=Qcq { e with lsn:=x.end_ + 1 }
  have hh:=@QaC x
  have he:=@Qsx x
  simp only [Lg.hd] at hh
  have e0:Qd2 x e = if lgB x = false then (Lg0,0,26) else if x.es.length = 4096\/1099511627776 < x.end_ + 1 then (Lg0,0,21)
    else if ({ e with lsn:=x.end_ + 1 }:E).okB = false then (Lg0,0,12) else (⟨x.f,x.es ++ [{ e with lsn:=x.end_ + 1 }],x.d⟩,x.end_ + 1,0):=rfl
  unfold QCT
  generalize Qd2 x e = r at *
  generalize lgB x = b at *
  obtain ⟨lsn,kind,tx,ptx,ppg,ref,c,blob⟩:=e
  dsimp only at c3 e0 |-
  cases b
  · (unfold Tryz.f169; refine rn trivial ?_; try with_reducible exact ⟨⟩)
    refine rn F ?_
    repeat' (first
      | with_reducible exact ⟨⟩
      | refine vp F (c1) ?_)
    all_goals (first | (rw [e0]; simp (disch:=first | assumption | omega | exact rfl | exact nf (by assumption) | exact nt (by assumption) | decide | fail) only [if_pos,if_neg]; first | done | rfl) | (rw [e0]; simp (disch:=first | assumption | omega | exact rfl | exact nf (by assumption) | exact nt (by assumption) | decide | (simp_all; done) | fail) only [if_pos,if_neg]; first | done | rfl))
  · replace hh:=hh rfl
    replace he:=he rfl
    have hdef:x.end_ = x.f + x.es.length - 1:=rfl
    have hl:=Qfb x.es ⟨x.end_ + 1,kind,tx,ptx,ppg,ref,c,blob⟩
    dsimp only at hl
    have hb:(x.es.length + 1) * 128<=140737488355328:=by omega
    generalize (⟨x.end_ + 1,kind,tx,ptx,ppg,ref,c,blob⟩:E).okB = ok at *
    generalize x.end_ = en at *
    (unfold Tryz.f169; refine rn trivial ?_)
    have F:=(And.intro @hb @hl)
    refine rn F ?_
    repeat' (first
      | with_reducible exact ⟨⟩
      | (refine sG F ?_ ?_<;>intro hZ)
      | (refine sB F ?_ ?_<;>intro hZ)
      | refine vp F (c1) ?_
      | refine vp F (c2 (by omega) (by omega)) ?_
      | refine vp F (c3) ?_
      | (refine Qd (id:=8) [0,1,3] [⟨[4],[],2,[0,3],[]⟩,⟨[4],[4],5,[0,1,3],[6]⟩,⟨[],[],7,[],[]⟩] (by kernel_rfl) (by kernel_rfl) ?_; refine rn F ?_)
      | (refine Qd (id:=9) [0,1,2] [⟨[],[],3,[1,2],[]⟩,⟨[],[],4,[],[]⟩,⟨[],[],5,[],[]⟩] (by kernel_rfl) (by kernel_rfl) ?_; refine rn F ?_))
    all_goals first | (first | (rw [e0]; simp (disch:=first | assumption | omega | exact rfl | exact nf (by assumption) | exact nt (by assumption) | decide | fail) only [if_pos,if_neg]; first | done | rfl) | (rw [e0]; simp (disch:=first | assumption | omega | exact rfl | exact nf (by assumption) | exact nt (by assumption) | decide | (simp_all; done) | fail) only [if_pos,if_neg]; first | done | rfl)) | skip
theorem QiJ (x:Lg) (hx:x.es.length<=9223372036854775807) (n:Int):VCalls prog 14 [.agg x.c,.int .i64 n] [] (Ret (lgD (QaG x n))):=by
  refine dk Tryz.func14 ?_
  have c1:=Qad x hx
  have c2:=Qgp x
  have hh:=@QaC x
  simp only [Lg.hd] at hh
  have e0:QaG x n = if lgB x = false then (Lg0,26) else if x.end_ < n then (Lg0,14) else (⟨x.f,x.es,if n > x.d then n else x.d⟩,0):=rfl
  unfold lgD
  generalize QaG x n = r at *
  generalize lgB x = b at *
  cases b
  · (unfold Tryz.f14; refine rn trivial ?_; try with_reducible exact ⟨⟩)
    refine rn F ?_
    repeat' (first
      | with_reducible exact ⟨⟩
      | refine vp F (c1) ?_)
    all_goals (first | (rw [e0]; simp (disch:=first | assumption | omega | exact rfl | exact nf (by assumption) | exact nt (by assumption) | decide | fail) only [if_pos,if_neg]; first | done | rfl) | (rw [e0]; simp (disch:=first | assumption | omega | exact rfl | exact nf (by assumption) | exact nt (by assumption) | decide | (simp_all; done) | fail) only [if_pos,if_neg]; first | done | rfl))
  · replace hh:=hh rfl
    (unfold Tryz.f14; refine rn trivial ?_)
    refine rn F ?_
    repeat' (first
      | with_reducible exact ⟨⟩
      | (refine sB F ?_ ?_<;>intro hZ)
      | refine vp F (c1) ?_
      | refine vp F (c2 (by omega) (by omega)) ?_)
    all_goals first | (first | (rw [e0]; simp (disch:=first | assumption | omega | exact rfl | exact nf (by assumption) | exact nt (by assumption) | decide | fail) only [if_pos,if_neg]; first | done | rfl) | (rw [e0]; simp (disch:=first | assumption | omega | exact rfl | exact nf (by assumption) | exact nt (by assumption) | decide | (simp_all; done) | fail) only [if_pos,if_neg]; first | done | rfl)) | skip
def Qfk (x:Lg) (n:Int):E × Int:=if lgB x = false then (E0,26) else if n < x.f\/x.end_ < n then (E0,14) else (x.es.getD (n - x.f).toNat E0,0)
theorem QhS (x:Lg) (hx:x.es.length<=9223372036854775807) (n:Int):VCalls prog 49 [.agg x.c,.int .i64 n] [] (Ret (.tup [.agg (Qfk x n).1.d,.int .i64 (Qfk x n).2])):=by
  refine dk Tryz.func49 ?_
  have c1:=Qad x hx
  have c2:=Qgp x
  have hh:=@QaC x
  simp only [Lg.hd] at hh
  have e0:Qfk x n = if lgB x = false then (E0,26) else if n < x.f\/x.end_ < n then (E0,14) else (x.es.getD (n - x.f).toNat E0,0):=rfl
  generalize Qfk x n = r at *
  generalize lgB x = b at *
  cases b
  · (unfold Tryz.f49; refine rn trivial ?_; try with_reducible exact ⟨⟩)
    refine rn F ?_
    repeat' (first
      | with_reducible exact ⟨⟩
      | refine vp F (c1) ?_)
    all_goals (first | (rw [e0]; simp (disch:=first | assumption | omega | exact rfl | exact nf (by assumption) | exact nt (by assumption) | decide | fail) only [if_pos,if_neg]; first | done | rfl) | (rw [e0]; simp (disch:=first | assumption | omega | exact rfl | exact nf (by assumption) | exact nt (by assumption) | decide | (simp_all; done) | fail) only [if_pos,if_neg]; first | done | rfl))
  · replace hh:=hh rfl
    have hdef:x.end_ = x.f + x.es.length - 1:=rfl
    generalize x.end_ = en at *
    have hg:=fun h:(n - x.f).toNat < x.es.length=>QdB x.es (n - x.f).toNat h
    (unfold Tryz.f49; refine rn trivial ?_)
    have F:=@hg
    refine rn F ?_
    repeat' (first
      | with_reducible exact ⟨⟩
      | (refine sG F ?_ ?_<;>intro hZ)
      | (refine sB F ?_ ?_<;>intro hZ)
      | refine vp F (c1) ?_
      | refine vp F (c2 (by omega) (by omega)) ?_)
    all_goals first | (first | (rw [e0]; simp (disch:=first | assumption | omega | exact rfl | exact nf (by assumption) | exact nt (by assumption) | decide | fail) only [if_pos,if_neg]; first | done | rfl) | (rw [e0]; simp (disch:=first | assumption | omega | exact rfl | exact nf (by assumption) | exact nt (by assumption) | decide | (simp_all; done) | fail) only [if_pos,if_neg]; first | done | rfl)) | skip
def Qss (n:Int):Bool:=decide (0<=n) && decide (n<=1099511627776)
theorem Qrt (n:Int):VCalls prog 225 [.int .i64 n] [] (Ret (.bool (Qss n))):=by
  refine dd Tryz.func225 ?_
  (unfold Tryz.f225; refine rn trivial ?_)
  refine rn F ?_
  repeat' (first
    | with_reducible exact ⟨⟩
    | (refine sG F ?_ ?_<;>intro hZ))
  all_goals (first | rfl | (congr 3; rw [Bool.eq_iff_iff]; (try simp only [Qss,decide_eq_true_eq,Bool.and_eq_true,Bool.or_eq_true,Bool.not_eq_true',Bool.not_eq_false',decide_eq_false_iff_not,beq_iff_eq,bne_iff_ne,ne_eq,Bool.false_eq_true,Bool.true_eq_false,iff_true,true_iff,iff_false,false_iff]); first | done | omega | grind))
def QBK (l:List Rw) (i:Nat):Bool:=Qss (l.getD i Rw0).lsn && Qss (l.getD i Rw0).im && Qss (l.getD i Rw0).at_ && !(decide ((l.getD i Rw0).im = 0) && !decide ((l.getD i Rw0).at_ = 0))
def ixB (l:List Rw):Bool:=decide (1<=l.length) && decide (l.length<=64) && (List.range l.length).all (QBK l)
theorem QsE {l:List Rw} (h:ixB l = true):1<=l.length/\l.length<=64:=by
  unfold ixB at h; simp only [Bool.and_eq_true,decide_eq_true_eq] at h; exact h.1
theorem Qa7 (l:List Rw) (hl:l.length<=1000000):VCalls prog 178 [.agg [.pv (.sl (fz Qb1 l))]] [] (Ret (.bool (ixB l))):=by
  refine dd Tryz.func178 ?_
  have hB:ixB l = (decide (1<=l.length) && decide (l.length<=64) && (List.range l.length).all (QBK l)):=rfl
  have hB':1<=l.length->l.length<=64->ixB l = (List.range l.length).all (QBK l):=fun h h2=>by rw [hB,decide_eq_true h,decide_eq_true h2,Bool.true_and,Bool.true_and]
  have no:¬ (1<=l.length/\l.length<=64)->ixB l = false:=fun h=>by
    rw [hB]
    by_cases h1:1<=l.length
    · rw [decide_eq_false (show ¬ l.length<=64 from fun h2=>h ⟨h1,h2⟩)]; simp
    · rw [decide_eq_false h1]; rfl
  generalize ixB l = b at *
  (unfold Tryz.f178; refine rn trivial ?_)
  refine rn F ?_
  repeat' (first
    | with_reducible exact ⟨⟩
    | (refine sG F ?_ ?_<;>intro hZ)
    | (refine sB F ?_ ?_<;>intro hZ))
  all_goals first | (rw [no (by omega)]) | skip
  refine Qh (fun s:Okay l.length (QBK l)=>⟨53,0,[(3,.int .i64 s.i),(1,.ptr 0 0)],[⟨38,true,[.pv (.sl (fz Qb1 l))]⟩]⟩) (fun s=>l.length - s.i) (Okay.start _ _) (gc [0]) ?_
  intro s
  have hsi:=s.hi
  have hg:=fun h:s.i < l.length=>QkZ l s.i h
  have e:QBK l s.i = (Qss (l.getD s.i Rw0).lsn && Qss (l.getD s.i Rw0).im && Qss (l.getD s.i Rw0).at_ && !(decide ((l.getD s.i Rw0).im = 0) && !decide ((l.getD s.i Rw0).at_ = 0))):=rfl
  have c1:=Qrt (l.getD s.i Rw0).lsn
  have c2:=Qrt (l.getD s.i Rw0).im
  have c3:=Qrt (l.getD s.i Rw0).at_
  generalize Qss (l.getD s.i Rw0).lsn = b1 at *
  generalize Qss (l.getD s.i Rw0).im = b2 at *
  generalize Qss (l.getD s.i Rw0).at_ = b3 at *
  have F:=@hg
  refine rn F ?_
  repeat' (first
    | with_reducible exact ⟨⟩
    | (refine sG F ?_ ?_<;>intro hZ)
    | (refine sB F ?_ ?_<;>intro hZ)
    | refine vp F (c1) ?_
    | refine vp F (c2) ?_
    | refine vp F (c3) ?_)
  all_goals first
    | (exact congrArg DV.bool (s.no (by omega) (hB' (by omega) (by omega)) (by rw [e]; simp_all)).symm)
    | (exact congrArg DV.bool (s.yes (by omega) (hB' (by omega) (by omega))).symm)
    | (exact ⟨s.next (by omega) (by rw [e]; simp_all),s.dec (by omega),(gc [0])⟩)
    | skip
theorem QyD (l:List Rw) (i:Nat) (r:Rw) (hi:i < l.length):(cells Qb1 l).take (i * 3) ++ [.pv (.lit (.int .i64 r.lsn)),.pv (.lit (.int .i64 r.im)),.pv (.lit (.int .i64 r.at_))] ++ (cells Qb1 l).drop (i * 3 + 3) = cells Qb1 (l.set i r):=Qm2 Qb1 l i r hi
theorem Qvl (l:List Rw) (hl:l.length<=1000000) (i:Nat) (hi:i < l.length) (r:Rw):VCalls prog 213 [.agg [.pv (.sl (fz Qb1 l))],.int .i64 i,.agg r.d] [] (Ret (.agg [.pv (.sl (fz Qb1 (l.set i r)))])):=by
  refine dd Tryz.func213 ?_
  have hb:i * 3 + 3<=l.length * 3:=by omega
  have hse:=QyD l i r hi
  have hle:(l.set i r).length = l.length:=List.length_set
  (unfold Tryz.f213; refine rn trivial ?_)
  have F:=(And.intro @hb (And.intro @hse @hle))
  (refine rn F ?_; try with_reducible exact ⟨⟩)
theorem QvS {e:E} (h:e.okB = true) (hk:e.kind = 1\/e.kind = 2\/e.kind = 7):0<=e.c.pg/\e.c.pg < 64:=by
  unfold E.okB at h
  simp only [Bool.and_eq_true] at h
  have h2:=h.2
  unfold E.kindB Ch.okB Ch.ix at h2
  rcases hk with hk | hk | hk<;>rw [hk] at h2<;>simp at h2<;>omega
def QgD (l:List Rw) (e:E):List Rw × Int:=
  if ixB l = false then ([],28) else if e.okB = false then ([],12) else if e.kind ≠ 7 then (l,0) else if (l.length:Int)<=e.c.pg then ([],1)
  else (l.set e.c.pg.toNat ⟨if e.ref > (l.getD e.c.pg.toNat Rw0).lsn then e.ref else (l.getD e.c.pg.toNat Rw0).lsn,(l.getD e.c.pg.toNat Rw0).im,(l.getD e.c.pg.toNat Rw0).at_⟩,0)
theorem Qkh (l:List Rw) (hl:l.length<=1000000) (e:E):VCalls prog 171 [.agg [.pv (.sl (fz Qb1 l))],.agg e.d] [] (Ret (.tup [.agg [.pv (.sl (fz Qb1 (QgD l e).1))],.int .i64 (QgD l e).2])):=by
  refine dk Tryz.func171 ?_
  have c1:=Qa7 l hl
  have c2:=Qcq e
  have c3:=fun i hi=>Qvl l hl i hi
  have hp:=@QvS e
  have hp1:=hp
  have e0:QgD l e = if ixB l = false then ([],28) else if e.okB = false then ([],12) else if e.kind ≠ 7 then (l,0) else if (l.length:Int)<=e.c.pg then ([],1)
    else (l.set e.c.pg.toNat ⟨if e.ref > (l.getD e.c.pg.toNat Rw0).lsn then e.ref else (l.getD e.c.pg.toNat Rw0).lsn,(l.getD e.c.pg.toNat Rw0).im,(l.getD e.c.pg.toNat Rw0).at_⟩,0):=rfl
  generalize QgD l e = r at *
  generalize ixB l = b at *
  cases hok:e.okB
  · rw [hok] at c2 e0
    (unfold Tryz.f171; refine rn trivial ?_)
    refine rn F ?_
    repeat' (first
      | with_reducible exact ⟨⟩
      | (refine sB F ?_ ?_<;>intro hZ)
      | refine vp F (c1) ?_
      | refine vp F (c2) ?_)
    all_goals first | (first | (rw [e0]; simp (disch:=first | assumption | omega | exact rfl | exact nf (by assumption) | exact nt (by assumption) | decide | fail) only [if_pos,if_neg]; first | done | rfl) | (rw [e0]; simp (disch:=first | assumption | omega | exact rfl | exact nf (by assumption) | exact nt (by assumption) | decide | (simp_all; done) | fail) only [if_pos,if_neg]; first | done | rfl)) | skip
  rw [hok] at c2 e0
  by_cases hk:e.kind = 7
  · obtain ⟨i,hi⟩:∃ i:Nat,e.c.pg = i:=⟨e.c.pg.toNat,by have:=hp hok (.inr (.inr hk)); omega⟩
    rw [hi,Int.toNat_natCast] at e0
    have hg:=fun h:i < l.length=>QkZ l i h
    generalize l.getD i Rw0 = w at *
    (unfold Tryz.f171; refine rn trivial ?_)
    have F:=(And.intro @hi (And.intro @hg @hk))
    refine rn F ?_
    repeat' (first
      | with_reducible exact ⟨⟩
      | (refine sB F ?_ ?_<;>intro hZ)
      | refine vp F (c1) ?_
      | refine vl F (c2) ?_
      | refine vp F (c3 i (by omega) ⟨_,_,_⟩) ?_)
    all_goals first | (first | (rw [e0]; simp (disch:=first | assumption | omega | exact rfl | exact nf (by assumption) | exact nt (by assumption) | decide | fail) only [if_pos,if_neg]; first | done | rfl) | (rw [e0]; simp (disch:=first | assumption | omega | exact rfl | exact nf (by assumption) | exact nt (by assumption) | decide | (simp_all; done) | fail) only [if_pos,if_neg]; first | done | rfl)) | skip
  · (unfold Tryz.f171; refine rn trivial ?_; try with_reducible exact ⟨⟩)
    have F:=@hk
    refine rn F ?_
    repeat' (first
      | with_reducible exact ⟨⟩
      | (refine sB F ?_ ?_<;>intro hZ)
      | refine vp F (c1) ?_
      | refine vp F (c2) ?_)
    all_goals first | (first | (rw [e0]; simp (disch:=first | assumption | omega | exact rfl | exact nf (by assumption) | exact nt (by assumption) | decide | fail) only [if_pos,if_neg]; first | done | rfl) | (rw [e0]; simp (disch:=first | assumption | omega | exact rfl | exact nf (by assumption) | exact nt (by assumption) | decide | (simp_all; done) | fail) only [if_pos,if_neg]; first | done | rfl)) | skip
def Tx.ss (t:Tx):Prop:=t.l.length<=100000/\t.s.length<=100000
theorem Tx.ss.sm {t:Tx} (h:t.ss):t.sm:=⟨Nat.le_trans h.1 (by decide),Nat.le_trans h.2 (by decide)⟩
def smN (n:Nat) (l:List Tx):Prop:=l.length<=n/\∀ t ∈ l,t.ss
theorem smN.smL {n:Nat} {l:List Tx} (h:smN n l) (hn:n<=1000000):smL l:=⟨Nat.le_trans h.1 hn,fun t ht=>(h.2 t ht).sm⟩
theorem smN.mono {n m:Nat} {l:List Tx} (h:smN n l) (hn:n<=m):smN m l:=⟨Nat.le_trans h.1 hn,h.2⟩
theorem QM (n:Nat):smN n []:=⟨Nat.zero_le _,fun t h=>by simp at h⟩
theorem QfJ {l:List Tx} (h:QdM l = true):smN 64 l:=⟨Qm0 h,fun t ht=>by
  obtain ⟨i,hi,rfl⟩:=List.getElem_of_mem ht
  have:=QeX (QdL h hi)
  exact ⟨by omega,by omega⟩⟩
theorem smN.set {n:Nat} {l:List Tx} (h:smN n l) (i:Nat) {t:Tx} (ht:t.ss):smN n (l.set i t):=
  ⟨by rw [List.length_set]; exact h.1,fun x hx=>by
    rcases List.mem_or_eq_of_mem_set hx with hx | rfl
    · exact h.2 x hx
    · exact ht⟩
theorem smN.rem {n:Nat} {l:List Tx} (h:smN n l) (a:Int):smN n (QoE l a):=
  ⟨Nat.le_trans (QrI l a) h.1,fun x hx=>h.2 x ((List.mem_filter.1 hx).1)⟩
theorem Qlh {l:List Tx} (a:Int):smN 65 (Qcl l a).1:=by
  unfold Qcl
  split
  · exact QM _
  · rename_i h1
    have hv:QdM l = true:=by simpa using h1
    have hs:=QfJ hv
    split
    · exact QM _
    split
    · exact QM _
    split
    · exact QM _
    refine ⟨?_,fun x hx=>?_⟩
    · have:=hs.1; unfold QDT; simp only [List.length_append,List.length_take,List.length_cons,List.length_drop]; omega
    · unfold QDT at hx
      rcases List.mem_append.1 hx with h | h
      · exact hs.2 x (List.mem_of_mem_take h)
      rcases List.mem_cons.1 h with rfl | h
      · exact ⟨Nat.zero_le _,Nat.zero_le _⟩
      · exact hs.2 x (List.mem_of_mem_drop h)
theorem Qt2 {l:List Tx} {a:Int} (h:(Qu l a).2 = 0):smN 64 l/\(Qu l a).1.l.length<=4096/\(Qu l a).1.s.length<=8:=by
  obtain ⟨hv,i,hi,_,_,h3⟩:=Qdz h
  rw [h3]
  exact ⟨QfJ hv,QeX (QdL hv hi)⟩
theorem QuU {l:List Tx} (a:Int):smN 65 (Qq6 l a).1:=by
  unfold Qq6
  split
  · exact QM _
  rename_i h
  obtain ⟨h1,h2,h3⟩:=Qt2 (l:=l) (a:=a) (by simpa using h)
  split
  · exact QM _
  · exact (h1.set _ ⟨by dsimp only; omega,by dsimp only; simp; omega⟩).mono (by omega)
theorem QwV {l:List Tx} (a sv:Int):smN 65 (QtS l a sv).1:=by
  unfold QtS
  split
  · exact QM _
  rename_i h
  obtain ⟨h1,h2,h3⟩:=Qt2 (l:=l) (a:=a) (by simpa using h)
  have h4:∀ k,((Qu l a).1.s.take k).length<=100000:=fun k=>by rw [List.length_take]; omega
  split
  · exact QM _
  split
  · exact (h1.set _ ⟨by dsimp only; omega,h4 _⟩).mono (by omega)
  · exact (h1.set _ ⟨by dsimp only; omega,h4 _⟩).mono (by omega)
theorem Qon {t:Tx} (h:t.ss):(Q5 t).ss:=by unfold Q5; split<;>exact h
theorem QiT {l:List Tx} (e:E):smN 65 (QbX l e).1:=by
  unfold QbX
  split
  · exact QM _
  rename_i h1
  have hv:QdM l = true:=by simpa using h1
  have hs:=QfJ hv
  split
  · exact QM _
  split
  · exact hs.mono (by omega)
  split
  · exact QM _
  rename_i h4
  rcases Q8 l e.tx with h | ⟨i,hi,h,hid⟩
  · omega
  rw [h,Int.toNat_natCast,Qn l i hi]
  have hlen:=QeX (QdL hv hi)
  unfold QoR
  split
  · exact QM _
  split
  · exact (hs.rem _).mono (by omega)
  · refine (hs.set _ (Qon ?_)).mono (by omega)
    unfold QeY
    have hfl:(l[i].l.filter fun x=>decide (x ≠ e.ref)).length<=l[i].l.length:=List.length_filter_le _ _
    split
    · exact ⟨by dsimp only; simp; omega,by dsimp only; omega⟩
    split
    · exact ⟨by dsimp only; omega,by dsimp only; omega⟩
    · exact ⟨by dsimp only; omega,by simp⟩
attribute [go_sem] Tx.d
structure Kn where
  pg:Int
  nx:Int
  lg:Lg
  pl:Pl
  lk:Lk
  tx:List Tx
  ix:List Rw
  la:List Dt
@[go_sem] def Kn.d (k:Kn):List DV:=[.int .i64 k.pg,.int .i64 k.nx,.int .i64 k.lg.f,.pv (.sl (fz encE k.lg.es)),.int .i64 k.lg.d,.int .i64 k.pl.size,.pv (.sl (fz Qcn k.pl.fs)),.int .i64 k.pl.hand,.pv (.sl (fz Qap k.lk.held)),.pv (.sl (fz Qap k.lk.wait)),.pv (.sl (fz Qah k.tx)),.pv (.sl (fz Qb1 k.ix)),.pv (.sl (fz Qdt k.la))]
def Kn0:Kn:=⟨0,0,Lg0,Pl0,Lk0,[],[],[]⟩
def Kn.sm (k:Kn):Prop:=k.lg.es.length<=4096/\k.pl.fs.length<=64/\k.lk.sum<=1024/\smN 65 k.tx/\k.ix.length<=64/\k.la.length<=10000
theorem QbR:Kn0.sm:=⟨by decide,by decide,by decide,QM _,by decide,by decide⟩
def VK (k:Kn):Prop:=(1<=k.pg/\k.pg<=64)/\(1<=k.nx/\k.nx<=1073741825)/\lgB k.lg = true/\plB k.pl = true/\QdM k.tx = true/\ixB k.ix = true/\k.ix.length = k.pg
def boD (b:Bool):DV:=.bool b
attribute [go_sem] boD QCT lgD QA3 QEg QEl
theorem Qkb (l:List Dt) (hl:l.length<=1000000) (n:Int):VCalls prog 179 [.pv (.sl (fz Qdt l)),.int .i64 n] [] (QF boD fun _=>True):=by
  refine dd Tryz.func179 ?_
  (unfold Tryz.f179; refine rn trivial ?_)
  refine Qh (fun s:To l.length=>⟨58,0,[(5,.int .i64 s.i),(1,.int .i64 n),(0,.pv (.sl (fz Qdt l)))],[]⟩) (fun s=>l.length - s.i) ⟨0,Nat.zero_le _⟩ (gc []) ?_
  rintro ⟨i,hi⟩
  dsimp only
  have hg:=fun h:i < l.length=>Qfm l i h
  have hgp:=fun h:i - 1 < l.length=>Qfm l (i - 1) h
  have F:=(And.intro @hg @hgp)
  refine rn F ?_
  repeat' (first
    | with_reducible exact ⟨⟩
    | (refine sG F ?_ ?_<;>intro hZ)
    | (refine sB F ?_ ?_<;>intro hZ)
    | (refine Qd (id:=5) [0,1,2,3,4,5,6,7,8,9,10,11,12,13,14,15,16,17,18,19,20,21,22,23,24,25,26,27,28,29,30,31,32,33,34,35,36,37,38,39,40] [] (by kernel_rfl) (by kernel_rfl) ?_; refine rn F ?_))
  all_goals first
    | exact ⟨rfl,rfl,false,rfl,trivial⟩
    | exact ⟨rfl,rfl,true,rfl,trivial⟩
    | exact ⟨⟨i + 1,by omega⟩,by dsimp only; omega,(gc [])⟩
    | skip
@[go_sem] def laD (a:Dt × Bool):DV:=.tup [.agg a.1.d,.bool a.2]
theorem QfK (k:Kn) (hl:k.la.length<=1000000) (n:Int):VCalls prog 134 [.agg k.d,.int .i64 n] [] (QF laD fun _=>True):=by
  refine dd Tryz.func134 ?_
  (unfold Tryz.f134; refine rn trivial ?_)
  refine Qh (fun s:To k.la.length=>⟨28,0,[(6,.int .i64 s.i),(4,.ptr 1 0),(2,.ptr 0 0),(1,.int .i64 n)],[⟨41,true,k.d⟩,⟨190,true,[.int .i64 0,.int .i64 0,.int .i64 0]⟩]⟩) (fun s=>k.la.length - s.i) ⟨0,Nat.zero_le _⟩ (gc [0,1]) ?_
  rintro ⟨i,hi⟩
  dsimp only
  have hg:=fun h:i < k.la.length=>Qfm k.la i h
  have F:=@hg
  refine rn F ?_
  repeat' (first
    | with_reducible exact ⟨⟩
    | (refine sB F ?_ ?_<;>intro hZ))
  all_goals first
    | exact ⟨rfl,rfl,(k.la.getD i Dt0,true),rfl,trivial⟩
    | exact ⟨rfl,rfl,(Dt0,false),rfl,trivial⟩
    | exact ⟨⟨i + 1,by omega⟩,by dsimp only; omega,(gc [0,1])⟩
    | skip
theorem Qvf (k:Kn) (h:k.sm):VCalls prog 133 [.agg k.d] [] (QF boD fun b=>b = true->VK k):=by
  refine dd Tryz.func133 ?_
  obtain ⟨h1,h2,h3,h4,h5,h6⟩:=h
  have c1:=Qad k.lg (by omega)
  have c2:=Qam k.pl (by omega)
  have c3:=Qa6 k.lk (by omega)
  have c4:=QbC k.tx (h4.smL (by omega))
  have c5:=Qa7 k.ix (by omega)
  have c6:=fun n=>Qkb k.la (by omega) n
  have e:VK k = ((1<=k.pg/\k.pg<=64)/\(1<=k.nx/\k.nx<=1073741825)/\lgB k.lg = true/\plB k.pl = true/\QdM k.tx = true/\ixB k.ix = true/\k.ix.length = k.pg):=rfl
  generalize lgB k.lg = b1 at *
  generalize plB k.pl = b2 at *
  generalize QdM k.tx = b4 at *
  generalize ixB k.ix = b5 at *
  (unfold Tryz.f133; refine rn trivial ?_)
  refine rn F ?_
  repeat' (first
    | with_reducible exact ⟨⟩
    | (refine sG F ?_ ?_<;>intro hZ)
    | refine vp F (c1) ?_
    | refine vp F (c2) ?_
    | (refine Qk (c3) rfl ?_; rintro b3 -; refine rn F ?_)
    | refine vp F (c4) ?_
    | refine vp F (c5) ?_
    | (refine Qk (c6 _) rfl ?_; rintro b6 -; refine rn F ?_))
  all_goals first
    | exact ⟨rfl,rfl,false,rfl,fun h=>by cases h⟩
    | (exact ⟨rfl,rfl,_,rfl,fun _=>by rw [e]; refine ⟨⟨by omega,by omega⟩,⟨by omega,by omega⟩,?_,?_,?_,?_,?_⟩<;>first | assumption | omega | (simp_all; done)⟩)
    | skip
theorem Qv4 {f d:Int} {es:List E} {e:E} (h:lgB ⟨f,es,d⟩ = true) (hl:es.length < 4096) (he:e.lsn = f + es.length) (ho:e.okB = true):lgB ⟨f,es ++ [e],d⟩ = true:=by
  have hd:=QaC h
  simp only [Lg.hd] at hd
  unfold lgB at h |-
  simp only [Bool.and_eq_true,decide_eq_true_eq,List.all_eq_true,List.mem_range] at h |-
  refine ⟨by simp only [Lg.hd,List.length_append,List.length_cons,List.length_nil]; omega,fun i hi=>?_⟩
  simp only [List.length_append,List.length_cons,List.length_nil] at hi
  rcases Nat.lt_or_ge i es.length with hlt | hge
  · have:=h.2 i hlt
    unfold lgC at this |-
    dsimp only at this |-
    rw [List.getD_eq_getElem?_getD,List.getElem?_append_left hlt,<- List.getD_eq_getElem?_getD]
    exact this
  · obtain rfl:i = es.length:=by omega
    unfold lgC
    dsimp only
    rw [List.getD_eq_getElem?_getD,List.getElem?_append_right (Nat.le_refl _),Nat.sub_self]
    simp [he,ho]
theorem QmL {x:Lg} {e:E} (h:(Qd2 x e).2.2 = 0):lgB x = true/\x.es.length < 4096/\({ e with lsn:=x.end_ + 1 }:E).okB = true/\Qd2 x e = (⟨x.f,x.es ++ [{ e with lsn:=x.end_ + 1 }],x.d⟩,x.end_ + 1,0):=by
  unfold Qd2 at h |-
  split at h
  · simp at h
  rename_i h1
  have hv:lgB x = true:=by simpa using h1
  split at h
  · simp at h
  rename_i h2
  split at h
  · simp at h
  rename_i h3
  have hd:=QaC hv
  simp only [Lg.hd] at hd
  exact ⟨hv,by omega,by simpa using h3,by rw [if_neg h1,if_neg h2,if_neg h3]⟩
theorem Qjf {x:Lg} {e:E} (h:(Qd2 x e).2.2 = 0):lgB (Qd2 x e).1 = true:=by
  obtain ⟨h1,h2,h3,h4⟩:=QmL h
  rw [h4]
  exact Qv4 (f:=x.f) (d:=x.d) h1 h2 (by dsimp only; unfold Lg.end_; omega) h3
theorem QnR (x:Lg) (e:E):(Qd2 x e).1.es.length<=4096:=by
  by_cases h:(Qd2 x e).2.2 = 0
  · exact (QaC (Qjf h)).2.2.1
  · unfold Qd2 at h |-
    split
    · decide
    split
    · decide
    split
    · decide
    · simp_all
theorem QwY {x:Lg} {e:E} (h:(Qd2 x e).2.2 = 0):Qfk (Qd2 x e).1 (Qd2 x e).2.1 = ({ e with lsn:=x.end_ + 1 },0):=by
  have hl:=Qjf h
  obtain ⟨h1,h2,h3,h4⟩:=QmL h
  rw [h4] at hl |-
  unfold Qfk
  dsimp only at hl |-
  have hd:=QaC h1
  simp only [Lg.hd] at hd
  rw [if_neg (by rw [hl]; decide),if_neg (by unfold Lg.end_; simp only [List.length_append,List.length_cons,List.length_nil]; omega)]
  have:(x.end_ + 1 - x.f).toNat = x.es.length:=by unfold Lg.end_; omega
  rw [this,List.getD_eq_getElem?_getD,List.getElem?_append_right (Nat.le_refl _),Nat.sub_self]; rfl
theorem QkH (l:List Rw) (e:E) (h:l.length<=64):(QgD l e).1.length<=64:=by
  unfold QgD
  split
  · decide
  split
  · decide
  split
  · exact h
  split
  · decide
  · simpa using h
theorem Qsl (l:List Tx) (e:E):smN 65 (QbX l e).1:=QiT e
theorem QQ (k:Kn) (h:k.sm):VCalls prog 111 [.agg k.d] [] (QF boD fun b=>b = true->VK k):=by
  refine dd Tryz.func111 ?_
  have c1:=Qvf k h
  obtain ⟨h1,h2,h3,h4,h5,h6⟩:=h
  have c2:=QfK k (by omega)
  unfold Lk.sum at h3
  have h40:=h4.1
  (unfold Tryz.f111; refine rn trivial ?_)
  refine rn F ?_
  repeat' (first
    | with_reducible exact ⟨⟩
    | (refine sB F ?_ ?_<;>intro hZ)
    | (refine Qk (c1) rfl ?_; rintro b hb; refine rn F ?_))
  all_goals first
    | exact ⟨rfl,rfl,false,rfl,fun h=>by cases h⟩
    | skip
  refine Qh (fun s:To k.tx.length=>⟨94,0,[(3,.int .i64 s.i),(1,.ptr 0 0)],[⟨41,true,k.d⟩]⟩) (fun s=>k.tx.length - s.i) ⟨0,Nat.zero_le _⟩ (gc [0]) ?_
  rintro ⟨i,hi⟩
  dsimp only
  have hg:=fun h:i < k.tx.length=>QdV k.tx i h
  have F:=@hg
  refine rn F ?_
  repeat' (first
    | with_reducible exact ⟨⟩
    | (refine sB F ?_ ?_<;>intro hZ)
    | (refine Qd (id:=6) [0,1,2,3,4,5,6,7,8] [] (by kernel_rfl) (by kernel_rfl) ?_; refine rn F ?_))
  all_goals first
    | exact ⟨rfl,rfl,false,rfl,fun h=>by cases h⟩
    | exact ⟨⟨i + 1,by omega⟩,by dsimp only; omega,(gc [0])⟩
    | skip
  refine Qh (fun s:To k.pl.fs.length=>⟨94,0,[(4,.int .i64 s.i),(1,.ptr 0 0)],[⟨41,true,k.d⟩]⟩) (fun s=>k.pl.fs.length - s.i) ⟨0,Nat.zero_le _⟩ (gc [0]) ?_
  rintro ⟨j,hj⟩
  dsimp only
  have hf:=fun h:j < k.pl.fs.length=>QbP k.pl.fs j h
  have F:=@hf
  refine rn F ?_
  repeat' (first
    | with_reducible exact ⟨⟩
    | (refine sB F ?_ ?_<;>intro hZ)
    | (refine Qk (c2 _) rfl ?_; rintro ⟨a,b2⟩ -; refine rn F ?_))
  all_goals first
    | exact ⟨rfl,rfl,false,rfl,fun h=>by cases h⟩
    | exact ⟨⟨j + 1,by omega⟩,by dsimp only; omega,(gc [0])⟩
    | skip
  refine Qh (fun s:To k.lk.held.length=>⟨94,0,[(8,.int .i64 s.i),(1,.ptr 0 0)],[⟨41,true,k.d⟩]⟩) (fun s=>k.lk.held.length - s.i) ⟨0,Nat.zero_le _⟩ (gc [0]) ?_
  rintro ⟨m,hm⟩
  dsimp only
  have hx:=fun h:m < k.lk.held.length=>QaD k.lk.held m h
  have F:=@hx
  refine rn F ?_
  repeat' (first
    | with_reducible exact ⟨⟩
    | (refine sB F ?_ ?_<;>intro hZ)
    | (refine Qd (id:=20) [0,1,2,3,4,5,6,7,8,9,10] [] (by kernel_rfl) (by kernel_rfl) ?_; refine rn F ?_))
  all_goals first
    | exact ⟨rfl,rfl,false,rfl,fun h=>by cases h⟩
    | exact ⟨⟨m + 1,by omega⟩,by dsimp only; omega,(gc [0])⟩
    | skip
  refine Qh (fun s:To k.lk.wait.length=>⟨94,0,[(9,.int .i64 s.i),(1,.ptr 0 0)],[⟨41,true,k.d⟩]⟩) (fun s=>k.lk.wait.length - s.i) ⟨0,Nat.zero_le _⟩ (gc [0]) ?_
  rintro ⟨n,hn⟩
  dsimp only
  have hy:=fun h:n < k.lk.wait.length=>QaD k.lk.wait n h
  have F:=@hy
  refine rn F ?_
  repeat' (first
    | with_reducible exact ⟨⟩
    | (refine sB F ?_ ?_<;>intro hZ)
    | (refine Qd (id:=25) [0,1,2,3,4,5,6,7,8,9,10] [] (by kernel_rfl) (by kernel_rfl) ?_; refine rn F ?_))
  all_goals first
    | exact ⟨rfl,rfl,false,rfl,fun h=>by cases h⟩
    | exact ⟨⟨n + 1,by omega⟩,by dsimp only; omega,(gc [0])⟩
    | exact ⟨rfl,rfl,true,rfl,fun _=>hb (by assumption)⟩
    | skip
@[go_sem] def inD (n:Int):DV:=.int .i64 n
theorem Qma (k:Kn) (h:k.sm) (n:Int):VCalls prog 137 [.agg k.d,.int .i64 n] [] (QF inD fun _=>True):=by
  refine dd Tryz.func137 ?_
  have c1:=QQ k h
  obtain ⟨h1,h2,h3,h4,h5,h6⟩:=h
  have c2:=QfK k (by omega) n
  have c3:=Qgo k.pl (by omega) n
  have hg:=fun h:n.toNat < k.ix.length=>QkZ k.ix n.toNat h
  (unfold Tryz.f137; refine rn trivial ?_)
  refine Qk c1 rfl ?_
  rintro b hb
  cases b
  · skip
    (refine rn F ?_; try with_reducible exact ⟨⟩)
    all_goals exact ⟨rfl,rfl,_,rfl,trivial⟩
  obtain ⟨v1,v2,v3,v4,v5,v6,v7⟩:=hb rfl
  have F:=@hg
  refine rn F ?_
  repeat' (first
    | with_reducible exact ⟨⟩
    | (refine sG F ?_ ?_<;>intro hZ)
    | (refine sB F ?_ ?_<;>intro hZ)
    | refine vp F (c3) ?_
    | (refine Qk (c2) rfl ?_; rintro ⟨a,b2⟩ -; refine rn F ?_))
  all_goals first
    | exact ⟨rfl,rfl,_,rfl,trivial⟩
    | skip
theorem Qei (k:Kn) (h:k.sm) (n:Int):VCalls prog 121 [.agg k.d,.int .i64 n] [] (QF (fun d:Int=>.agg (Kn.d ⟨k.pg,k.nx,⟨k.lg.f,k.lg.es,d⟩,k.pl,k.lk,k.tx,k.ix,k.la⟩)) fun d=>lgB k.lg = true->lgB ⟨k.lg.f,k.lg.es,d⟩ = true):=by
  refine dd Tryz.func121 ?_
  obtain ⟨h1,h2,h3,h4,h5,h6⟩:=h
  have c1:=QfL k.lg (by omega)
  have c2:=QiJ k.lg (by omega)
  have e:∀ n,(QaG k.lg n).2 = 0->(QaG k.lg n).1 = ⟨k.lg.f,k.lg.es,(QaG k.lg n).1.d⟩/\lgB (QaG k.lg n).1 = true:=fun n h=>by
    unfold QaG at h |-
    split at h
    · simp at h
    rename_i q1
    split at h
    · simp at h
    rename_i q2
    rw [if_neg q1,if_neg q2]
    refine ⟨rfl,?_⟩
    have hv:lgB k.lg = true:=by simpa using q1
    have hd:=QaC hv
    unfold lgB at hv |-
    simp only [Bool.and_eq_true,decide_eq_true_eq] at hv |-
    refine ⟨?_,hv.2⟩
    simp only [Lg.hd,Lg.end_] at hd q2 |-
    split<;>omega
  (unfold Tryz.f121; refine rn trivial ?_)
  refine rn F ?_
  repeat' (first
    | with_reducible exact ⟨⟩
    | (refine sB F ?_ ?_<;>intro hZ)
    | refine vp F (c1) ?_
    | refine vp F (c2 _) ?_
    | (refine Qd (id:=1) [0,1,2,3,4] [⟨[11],[],5,[0,1,2,3],[6]⟩,⟨[11],[],7,[0,2,3,4],[8,9,10]⟩,⟨[11],[11],12,[10],[]⟩,⟨[],[],13,[],[]⟩] (by kernel_rfl) (by kernel_rfl) ?_; refine rn F ?_))
  · obtain ⟨e1,e2⟩:=e _ (by assumption)
    generalize QaG k.lg _ = r at *
    obtain ⟨⟨f',es',d'⟩,er⟩:=r
    simp only [Lg.mk.injEq] at e1
    obtain ⟨rfl,rfl,_⟩:=e1
    exact ⟨rfl,rfl,d',rfl,fun _=>e2⟩
  · exact ⟨rfl,rfl,k.lg.d,rfl,fun h=>h⟩
@[go_sem] def kie (a:Kn × Int × Int):DV:=.tup [.agg a.1.d,.int .i64 a.2.1,.int .i64 a.2.2]
def QxI (k:Kn) (a:Kn × Int × Int):Prop:=a.1.sm/\(a.2.2 = 0->VK k/\(Qcl k.tx k.nx).2 = 0/\a.1 = ⟨k.pg,k.nx + 1,k.lg,k.pl,k.lk,(Qcl k.tx k.nx).1,k.ix,k.la⟩)
theorem QrA (k:Kn) (h:k.sm):VCalls prog 103 [.agg k.d] [] (QF kie (QxI k)):=by
  refine dk Tryz.func103 ?_
  have c1:=QQ k h
  have h':=h
  obtain ⟨h1,h2,h3,h4,h5,h6⟩:=h
  have c2:=Qnj k.tx (h4.smL (by omega)) k.nx
  have hsm:=Qlh (l:=k.tx) k.nx
  have e0:∀ er n,er ≠ 0->QxI k (Kn0,n,er):=fun er n h=>⟨QbR,fun h2=>absurd h2 h⟩
  (unfold Tryz.f103; refine rn trivial ?_)
  refine Qk c1 rfl ?_
  rintro b hb
  cases b
  · skip
    (refine rn F ?_; try with_reducible exact ⟨⟩)
    all_goals exact ⟨rfl,rfl,(Kn0,0,15),rfl,e0 _ _ (by decide)⟩
  have hv:=hb rfl
  obtain ⟨v1,v2,v3,v4,v5,v6,v7⟩:=hb rfl
  refine rn F ?_
  repeat' (first
    | with_reducible exact ⟨⟩
    | (refine sB F ?_ ?_<;>intro hZ)
    | refine vp F (c2) ?_
    | (refine Qd (id:=10) [0,1,2,3] [⟨[],[],4,[1,2,3],[]⟩,⟨[],[],5,[],[]⟩,⟨[],[],6,[],[]⟩] (by kernel_rfl) (by kernel_rfl) ?_; refine rn F ?_))
  all_goals first
    | exact ⟨rfl,rfl,(Kn0,0,21),rfl,e0 _ _ (by decide)⟩
    | exact ⟨rfl,rfl,(Kn0,0,(Qcl k.tx k.nx).2),rfl,e0 _ _ (by assumption)⟩
    | exact ⟨rfl,rfl,(⟨k.pg,k.nx + 1,k.lg,k.pl,k.lk,(Qcl k.tx k.nx).1,k.ix,k.la⟩,k.nx + 1 - 1,0),rfl,⟨h1,h2,h3,hsm,h5,h6⟩,fun _=>⟨hv,by omega,rfl⟩⟩
    | skip
def Kn.add (k:Kn) (e:E):Kn:=⟨k.pg,k.nx,⟨k.lg.f,k.lg.es ++ [e],k.lg.d⟩,k.pl,k.lk,(QbX k.tx e).1,(QgD k.ix e).1,k.la⟩
def QCZ (e e':E):Prop:=e'.kind = e.kind/\e'.tx = e.tx/\e'.ref = e.ref/\e'.c = e.c/\e'.blob = e.blob
def AddOk (k:Kn) (e e':E):Prop:=VK k/\QCZ e e'/\e'.okB = true/\e'.lsn = k.lg.end_ + 1/\k.lg.es.length < 4096/\(QbX k.tx e').2 = 0/\(QgD k.ix e').2 = 0/\(e.tx = 0->e'.ptx = 0)/\(0 < e.tx->∃ i,i < k.tx.length/\idT k.tx e.tx = i/\e'.ptx = (k.tx.getD i Tx0).n)
def QxJ (k:Kn) (e:E) (a:Kn × Int × Int):Prop:=a.1.sm/\(a.2.2 = 0->∃ e',AddOk k e e'/\a.1 = k.add e'/\a.2.1 = e'.lsn/\lgB a.1.lg = true)
theorem QAI (k:Kn) (e:E) (n er:Int) (h:er ≠ 0):QxJ k e (Kn0,n,er):=⟨QbR,fun h2=>absurd h2 h⟩
theorem Qjh {k:Kn} {e e1:E} (hs:k.sm) (hv:VK k) (h:(Qd2 k.lg e1).2.2 = 0) (hn:(QbX k.tx (Qfk (Qd2 k.lg e1).1 (Qd2 k.lg e1).2.1).1).2 = 0) (hr:(QgD k.ix (Qfk (Qd2 k.lg e1).1 (Qd2 k.lg e1).2.1).1).2 = 0) (hse:QCZ e e1) (h0:e.tx = 0->e1.ptx = 0)
    (hi:0 < e.tx->∃ i,i < k.tx.length/\idT k.tx e.tx = i/\e1.ptx = (k.tx.getD i Tx0).n) :
    QxJ k e (⟨k.pg,k.nx,(Qd2 k.lg e1).1,k.pl,k.lk,(QbX k.tx (Qfk (Qd2 k.lg e1).1 (Qd2 k.lg e1).2.1).1).1,(QgD k.ix (Qfk (Qd2 k.lg e1).1 (Qd2 k.lg e1).2.1).1).1,k.la⟩,(Qd2 k.lg e1).2.1,0):=by
  have hg:=QwY h
  have hl:=Qjf h
  obtain ⟨q1,q2,q3,q4⟩:=QmL h
  have hlen:=QnR k.lg e1
  obtain ⟨s1,s2,s3,s4,s5,s6⟩:=hs
  rw [hg] at hn hr |-
  rw [q4] at hl hlen |-
  exact ⟨⟨hlen,s2,s3,Qsl _ _,QkH _ _ s5,s6⟩,fun _=>⟨{ e1 with lsn:=k.lg.end_ + 1 },⟨hv,hse,q3,rfl,q2,hn,hr,h0,hi⟩,rfl,rfl,hl⟩⟩
theorem QdP (k:Kn) (h:k.sm) (e:E):VCalls prog 129 [.agg k.d,.agg e.d] [] (QF kie (QxJ k e)):=by
  refine dk Tryz.func129 ?_
  have c1:=QQ k h
  have ch:=fun n=>Qma k h n
  have h':=h
  obtain ⟨h1,h2,h3,h4,h5,h6⟩:=h
  have c2:=QbV k.tx (Nat.le_trans h4.1 (by decide)) e.tx
  have hq:=QAI k e
  obtain ⟨lsn,kind,tx,ptx,ppg,ref,c,blob⟩:=e
  dsimp only at c2
  have c3:=fun p=>Qa9 ⟨lsn,kind,tx,p,0,ref,c,blob⟩
  have c4:=fun e=>QrX k.lg (by omega) e
  have c5:=fun e=>QhS (Qd2 k.lg e).1 (by have:=QnR k.lg e; omega) (Qd2 k.lg e).2.1
  have c6:=fun e=>Ql8 k.tx (h4.smL (by omega)) e
  have c7:=fun e=>Qkh k.ix (by omega) e
  (unfold Tryz.f129; refine rn trivial ?_)
  refine Qk c1 rfl ?_
  rintro b hb
  cases b
  · skip
    (refine rn F ?_; try with_reducible exact ⟨⟩)
    all_goals exact ⟨rfl,rfl,(Kn0,0,15),rfl,hq _ _ (by decide)⟩
  have hv:=hb rfl
  by_cases ht:0 < tx
  · rcases Q8 k.tx tx with hi | ⟨i,hi,hid,_⟩
    · rw [hi] at c2
      have F:=@ht
      refine rn F ?_
      repeat' (first
        | with_reducible exact ⟨⟩
        | refine vp F (c2) ?_)
      all_goals exact ⟨rfl,rfl,(Kn0,0,16),rfl,hq _ _ (by decide)⟩
    · rw [hid] at c2
      have hg:=QdV k.tx i hi
      have F:=(And.intro @ht @hg)
      refine rn F ?_
      repeat' (first
        | with_reducible exact ⟨⟩
        | (refine sB F ?_ ?_<;>intro hZ)
        | refine vp F (c2) ?_
        | refine vp F (c3 _) ?_
        | refine vp F (c4 ⟨_,_,_,_,_,_,⟨_,_,⟨_,_⟩,⟨_,_⟩⟩,_⟩) ?_
        | refine vp F (c5 _) ?_
        | refine vp F (c6 _) ?_
        | refine vp F (c7 _) ?_
        | (refine Qk (ch _) rfl ?_; rintro hd -; refine rn F ?_)
        | (refine Qd (id:=21) [0,1,2,3] [⟨[],[],4,[1,2],[5]⟩,⟨[],[],6,[2],[7]⟩,⟨[],[],8,[],[]⟩] (by kernel_rfl) (by kernel_rfl) ?_; refine rn F ?_))
      all_goals first
        | exact ⟨rfl,rfl,(Kn0,0,_),rfl,hq _ _ (by assumption)⟩
        | (have q:=Qjh (e:=⟨lsn,kind,tx,ptx,ppg,ref,c,blob⟩) (e1:=⟨lsn,kind,tx,(k.tx.getD i Tx0).n,0,ref,c,blob⟩) h' hv (by omega) (by omega) (by omega) ⟨rfl,rfl,rfl,rfl,rfl⟩ (fun h=>by dsimp only at h; omega) (fun _=>⟨i,hi,hid,rfl⟩)
           exact ⟨rfl,rfl,_,rfl,q⟩)
        | (have q:=Qjh (e:=⟨lsn,kind,tx,ptx,ppg,ref,c,blob⟩) (e1:=⟨lsn,kind,tx,(k.tx.getD i Tx0).n,hd,ref,c,blob⟩) h' hv (by omega) (by omega) (by omega) ⟨rfl,rfl,rfl,rfl,rfl⟩ (fun h=>by dsimp only at h; omega) (fun _=>⟨i,hi,hid,rfl⟩)
           exact ⟨rfl,rfl,_,rfl,q⟩)
        | skip
  · skip
    have F:=@ht
    refine rn F ?_
    repeat' (first
      | with_reducible exact ⟨⟩
      | (refine sB F ?_ ?_<;>intro hZ)
      | refine vp F (c3 _) ?_
      | refine vp F (c4 ⟨_,_,_,_,_,_,⟨_,_,⟨_,_⟩,⟨_,_⟩⟩,_⟩) ?_
      | refine vp F (c5 _) ?_
      | refine vp F (c6 _) ?_
      | refine vp F (c7 _) ?_
      | (refine Qk (ch _) rfl ?_; rintro hd -; refine rn F ?_)
      | (refine Qd (id:=21) [0,1,2,3] [⟨[],[],4,[1,2],[5]⟩,⟨[],[],6,[2],[7]⟩,⟨[],[],8,[],[]⟩] (by kernel_rfl) (by kernel_rfl) ?_; refine rn F ?_))
    all_goals first
      | exact ⟨rfl,rfl,(Kn0,0,_),rfl,hq _ _ (by assumption)⟩
      | (have q:=Qjh (e:=⟨lsn,kind,tx,ptx,ppg,ref,c,blob⟩) (e1:=⟨lsn,kind,tx,0,0,ref,c,blob⟩) h' hv (by omega) (by omega) (by omega) ⟨rfl,rfl,rfl,rfl,rfl⟩ (fun _=>rfl) (fun h=>absurd h ht)
         exact ⟨rfl,rfl,_,rfl,q⟩)
      | (have q:=Qjh (e:=⟨lsn,kind,tx,ptx,ppg,ref,c,blob⟩) (e1:=⟨lsn,kind,tx,0,hd,ref,c,blob⟩) h' hv (by omega) (by omega) (by omega) ⟨rfl,rfl,rfl,rfl,rfl⟩ (fun _=>rfl) (fun h=>absurd h ht)
         exact ⟨rfl,rfl,_,rfl,q⟩)
      | skip
structure Rs where
  st:Int
  tx:Int
  pg:Int
  cell:Ce
  er:Int
@[go_sem] def Rs.d (r:Rs):List DV:=[.int .i64 r.st,.int .i64 r.tx,.int .i64 r.pg,.bool r.cell.set,.pv (.str r.cell.data),.int .i64 r.er]
def QaH (e:Int):Rs:=⟨5,0,0,Ce0,e⟩
@[go_sem] def krD (a:Kn × Rs):DV:=.tup [.agg a.1.d,.agg a.2.d]
structure Ev (x y:Lg):Prop where
  f:y.f = x.f
  pre:x.es <+: y.es
  ok:lgB x = true->lgB y = true
theorem Ev.refl (x:Lg):Ev x x:=⟨rfl,List.prefix_rfl,fun h=>h⟩
theorem Ev.trans {x y z:Lg} (a:Ev x y) (b:Ev y z):Ev x z:=⟨b.f.trans a.f,a.pre.trans b.pre,fun h=>b.ok (a.ok h)⟩
theorem Ev.len {x y:Lg} (a:Ev x y):x.es.length<=y.es.length:=a.pre.length_le
theorem AddOk.le {k:Kn} {e e':E} (_:AddOk k e e') (hl:lgB (k.add e').lg = true):Ev k.lg (k.add e').lg:=⟨rfl,List.prefix_append _ _,fun _=>hl⟩
theorem Ev.force {x:Lg} {d:Int} (h:lgB x = true->lgB ⟨x.f,x.es,d⟩ = true):Ev x ⟨x.f,x.es,d⟩:=⟨rfl,List.prefix_rfl,h⟩
theorem Qd1 {k k1:Kn} {e:E} {n1 e1:Int} (hq:QxJ k e (k1,n1,e1)) (h:e1 = 0):Ev k.lg k1.lg/\lgB k1.lg = true/\k1.lg.es.length = k.lg.es.length + 1/\k1.pg = k.pg/\k1.pl = k.pl/\k1.lk = k.lk/\k1.la = k.la:=by
  obtain ⟨e',ha,hk,_,hl⟩:=hq.2 h
  dsimp only at hk hl
  subst hk
  exact ⟨ha.le hl,hl,by simp [Kn.add],rfl,rfl,rfl,rfl⟩
theorem Qaa (e:Int):VCalls prog 97 [.int .i64 e] [] (Ret (.agg (QaH e).d)):=by
  refine dd Tryz.func97 ?_
  (unfold Tryz.f97; refine rn trivial ?_)
  rfl
theorem QoG (k:Kn) (h:k.sm) (tx pg sl:Int) (hi:0<=idT k.tx tx):VCalls prog 238 [.agg k.d,.int .i64 tx,.agg [.int .i64 pg,.int .i64 sl]] [] (QF boD fun _=>True):=by
  refine dd Tryz.func238 ?_
  obtain ⟨h1,h2,h3,h4,h5,h6⟩:=h
  have c2:=QbV k.tx (Nat.le_trans h4.1 (by decide)) tx
  have c5:=fun n=>QhS k.lg (by omega) n
  rcases Q8 k.tx tx with hn | ⟨i,hil,hid,_⟩
  · omega
  rw [hid] at c2
  have hg:=QdV k.tx i hil
  have ht:(k.tx.getD i Tx0).l.length<=100000:=by rw [Qn _ _ hil]; exact (h4.2 _ (List.getElem_mem hil)).1
  (unfold Tryz.f238; refine rn trivial ?_)
  have F:=@hg
  refine rn F ?_
  repeat' (first
    | with_reducible exact ⟨⟩
    | refine vp F (c2) ?_
    | (refine Qd (id:=1) [0,1,2,3,4] [⟨[8],[],5,[0,1,2],[6,7]⟩,⟨[8],[8],9,[],[]⟩] (by kernel_rfl) (by kernel_rfl) ?_; refine rn F ?_))
  generalize k.tx.getD i Tx0 = t at *
  refine Qh (fun s:To t.l.length=>⟨55,0,[(8,.int .i64 s.i),(7,.ptr 2 0),(5,.ptr 1 0),(3,.ptr 0 0)],[⟨41,true,k.d⟩,⟨197,true,[.int .i64 pg,.int .i64 sl]⟩,⟨218,true,t.d⟩]⟩) (fun s=>t.l.length - s.i) ⟨0,Nat.zero_le _⟩ (gc [0,1,2]) ?_
  rintro ⟨j,hj⟩
  dsimp only
  have hx:=fun h:j < t.l.length=>QZ t.l j h
  have F:=@hx
  refine rn F ?_
  repeat' (first
    | with_reducible exact ⟨⟩
    | (refine sG F ?_ ?_<;>intro hZ)
    | (refine sB F ?_ ?_<;>intro hZ)
    | refine vp F (c5 _) ?_
    | (refine Qd (id:=5) [0,1,2,3,4,5,6] [⟨[11],[],7,[0,2,3,4,5],[8,9,10]⟩,⟨[11],[11],12,[10],[]⟩,⟨[],[],13,[],[]⟩] (by kernel_rfl) (by kernel_rfl) ?_; refine rn F ?_))
  all_goals first
    | exact ⟨rfl,rfl,true,rfl,trivial⟩
    | exact ⟨rfl,rfl,false,rfl,trivial⟩
    | exact ⟨⟨j + 1,by omega⟩,by dsimp only; omega,(gc [0,1,2])⟩
    | skip
def QAp (k:Kn) (a:Kn × Rs):Prop:=a.1.sm/\Ev k.lg a.1.lg/\a.2.st ≠ 3
theorem QrS (k:Kn) (h:k.sm) (tx:Int) (hi:0<=idT k.tx tx):VCalls prog 193 [.agg k.d,.int .i64 tx] [] (QF krD (QAp k)):=by
  refine dk Tryz.func193 ?_
  have h':=h
  obtain ⟨h1,h2,h3,h4,h5,h6⟩:=h
  have c2:=QbV k.tx (Nat.le_trans h4.1 (by decide)) tx
  have c3:=Qgn k.tx (Nat.le_trans h4.1 (by decide)) tx
  have c4:=QdP k h' ⟨0,3,tx,0,0,0,Ch0,[]⟩
  rcases Q8 k.tx tx with hn | ⟨i,hil,hid,_⟩
  · omega
  rw [hid] at c2
  have hg:=QdV k.tx i hil
  (unfold Tryz.f193; refine rn trivial ?_)
  have F:=@hg
  refine rn F ?_
  repeat' (first
    | with_reducible exact ⟨⟩
    | (refine sB F ?_ ?_<;>intro hZ)
    | refine vp F (c2) ?_
    | refine vp F (c3) ?_
    | (refine Qk (c4) rfl ?_; rintro ⟨k1,n1,e1⟩ hq; refine rn F ?_)
    | refine vp F (Qaa _) ?_
    | (refine Qk (Qei k1 hq.1 _) rfl ?_; rintro d hd; refine rn F ?_)
    | (refine Qk (Qdl k.lk (by omega) tx) rfl ?_; rintro u hu; refine rn F ?_)
    | (refine Qk (Qdl k1.lk (Nat.le_trans hq.1.2.2.1 (by decide)) tx) rfl ?_; rintro u hu; refine rn F ?_)
    | (refine Qd (id:=2) [0,1,2,3,4] [⟨[],[],5,[0,1,2],[6,7,8,9]⟩] (by kernel_rfl) (by kernel_rfl) ?_; refine rn F ?_)
    | (refine Qd (id:=6) [0,1] [⟨[],[],2,[0],[]⟩,⟨[],[],3,[1],[]⟩,⟨[],[],4,[],[]⟩] (by kernel_rfl) (by kernel_rfl) ?_; refine rn F ?_))
  · exact ⟨rfl,rfl,(⟨k.pg,k.nx,k.lg,k.pl,u,QoE k.tx tx,k.ix,k.la⟩,⟨1,0,0,Ce0,0⟩),rfl,⟨h1,h2,Nat.le_trans hu h3,h4.rem _,h5,h6⟩,Ev.refl _,by simp [QaH]⟩
  · exact ⟨rfl,rfl,(k,QaH e1),rfl,h',Ev.refl _,by simp [QaH]⟩
  · obtain ⟨q1,q2,q3,q4,q5,q6,q7⟩:=Qd1 hq (by omega)
    obtain ⟨r1,r2,r3,r4,r5,r6⟩:=hq.1
    exact ⟨rfl,rfl,(⟨k1.pg,k1.nx,⟨k1.lg.f,k1.lg.es,d⟩,k1.pl,u,k1.tx,k1.ix,k1.la⟩,⟨1,0,0,Ce0,0⟩),rfl,⟨r1,r2,Nat.le_trans hu r3,r4,r5,r6⟩,q1.trans (Ev.force hd),by simp [QaH]⟩
theorem QzY {l:List Tx} {a:Int}:0<=idT l a ↔ a ∈ l.map (·.id):=by
  unfold idT Qg7
  constructor
  · intro h
    split at h
    · rename_i hx
      obtain ⟨t,ht,he⟩:=List.any_eq_true.1 hx
      exact List.mem_map.2 ⟨t,ht,by simpa using he⟩
    · omega
  · intro h
    obtain ⟨t,ht,he⟩:=List.mem_map.1 h
    rw [if_pos (List.any_eq_true.2 ⟨t,ht,by simpa using he⟩)]
    omega
theorem Qoo (t:Tx):(Q5 t).id = t.id:=by unfold Q5; split<;>rfl
theorem QvV (t:Tx) (e:E):(QeY t e).id = t.id:=by unfold QeY; split; rfl; split<;>rfl
theorem Qsm {l:List Tx} {e:E} (h:(QbX l e).2 = 0) (hk:e.kind ≠ 3/\e.kind ≠ 5):(QbX l e).1.map (·.id) = l.map (·.id):=by
  unfold QbX at h |-
  split at h
  · simp at h
  rename_i q1
  split at h
  · simp at h
  rename_i q2
  split at h
  · rename_i q3; rw [if_neg q1,if_neg q2,if_pos q3]
  rename_i q3
  split at h
  · simp at h
  rename_i q4
  rw [if_neg q1,if_neg q2,if_neg q3,if_neg q4]
  rcases Q8 l e.tx with hn | ⟨i,hi,hid,_⟩
  · omega
  rw [hid,Int.toNat_natCast] at h |-
  unfold QoR at h |-
  split at h
  · simp at h
  rename_i q5
  split at h
  · rename_i q6; omega
  rename_i q6
  rw [if_neg q5,if_neg q6]
  dsimp only
  rw [List.map_set,Qoo,QvV,Qn l i hi]
  have:l[i].id = (l.map (·.id))[i]'(by simpa using hi):=by rw [List.getElem_map]
  rw [this,List.set_getElem_self]
theorem QoP {l:List Tx} {e:E} (h:(QbX l e).2 = 0) (hk:e.kind ≠ 3/\e.kind ≠ 5) {a:Int} (ha:0<=idT l a):0<=idT (QbX l e).1 a:=by
  rw [QzY] at ha |-; rw [Qsm h hk]; exact ha
theorem QoQ {l:List Tx} {e:E} (h:(QbX l e).2 = 0) (ht:e.tx = 0):(QbX l e).1 = l:=by
  unfold QbX at h |-
  split at h
  · simp at h
  rename_i q1
  split at h
  · simp at h
  rename_i q2
  rw [if_neg q1,if_neg q2,if_pos ht]
theorem QtZ {k k1:Kn} {e:E} {n1 e1:Int} (hq:QxJ k e (k1,n1,e1)) (h:e1 = 0) (hk:e.kind ≠ 3/\e.kind ≠ 5) {a:Int} (ha:0<=idT k.tx a):0<=idT k1.tx a:=by
  obtain ⟨e',⟨v,s,_,_,_,hn,_⟩,hk1,_,_⟩:=hq.2 h
  dsimp only at hk1
  subst hk1
  exact QoP hn (by rw [s.1]; exact hk) ha
theorem Qt1 {k k1:Kn} {e:E} {n1 e1:Int} (hq:QxJ k e (k1,n1,e1)) (h:e1 = 0) (ht:e.tx = 0):k1.tx = k.tx:=by
  obtain ⟨e',⟨v,s,_,_,_,hn,_⟩,hk1,_,_⟩:=hq.2 h
  dsimp only at hk1
  subst hk1
  exact QoQ hn (by rw [s.2.1]; exact ht)
def QCo (k:Kn) (st:Int) (a:Kn × Rs):Prop:=a.1.sm/\Ev k.lg a.1.lg/\(a.2.st = st\/a.2.st = 5)
theorem Qnb (k:Kn) (h:k.sm) (tx st:Int) (hi:0<=idT k.tx tx):VCalls prog 194 [.agg k.d,.int .i64 tx,.int .i64 st] [] (QF krD (QCo k st)):=by
  refine dk Tryz.func194 ?_
  have h':=h
  obtain ⟨h1,h2,h3,h4,h5,h6⟩:=h
  have c1:=QrV k.lk (by omega) tx
  have c2:=QbV k.tx (Nat.le_trans h4.1 (by decide)) tx
  have c3:=Qgn k.tx (Nat.le_trans h4.1 (by decide)) tx
  have c4:=fun (u:Lk) (hu:u.sum<=k.lk.sum)=>QdP ⟨k.pg,k.nx,k.lg,k.pl,u,k.tx,k.ix,k.la⟩ ⟨h1,h2,Nat.le_trans hu h3,h4,h5,h6⟩ ⟨0,4,tx,0,0,0,Ch0,[]⟩
  rcases Q8 k.tx tx with hn | ⟨i,hil,hid,_⟩
  · omega
  rw [hid] at c2
  have hg:=QdV k.tx i hil
  (unfold Tryz.f194; refine rn trivial ?_)
  have F:=@hg
  refine rn F ?_
  repeat' (first
    | with_reducible exact ⟨⟩
    | (refine sB F ?_ ?_<;>intro hZ)
    | (refine Qk (c1) rfl ?_; rintro u hu; refine rn F ?_)
    | refine vp F (c2) ?_
    | refine vp F (c3) ?_
    | (refine Qk (c4 u hu) rfl ?_; rintro ⟨k1,n1,e1⟩ hq; refine rn F ?_)
    | refine vp F (Qaa _) ?_
    | (refine Qk (Qdl u (Nat.le_trans hu (Nat.le_trans h3 (by decide))) tx) rfl ?_; rintro u2 hu2; refine rn F ?_)
    | (refine Qd (id:=3) [0,1,2,3,4] [⟨[],[],5,[0,1,2],[6,7,8,9]⟩] (by kernel_rfl) (by kernel_rfl) ?_; refine rn F ?_)
    | (refine Qd (id:=9) [0,1] [⟨[],[],2,[0],[]⟩,⟨[],[],3,[1],[]⟩,⟨[],[],4,[],[]⟩] (by kernel_rfl) (by kernel_rfl) ?_; refine rn F ?_))
  · exact ⟨rfl,rfl,(⟨k.pg,k.nx,k.lg,k.pl,u2,QoE k.tx tx,k.ix,k.la⟩,⟨st,0,0,Ce0,0⟩),rfl,⟨h1,h2,Nat.le_trans hu2 (Nat.le_trans hu h3),h4.rem _,h5,h6⟩,Ev.refl _,.inl rfl⟩
  · exact ⟨rfl,rfl,(k,QaH e1),rfl,h',Ev.refl _,.inr rfl⟩
  have he1:e1 = 0:=by omega
  obtain ⟨q1,q2,q3,q4,q5,q6,q7⟩:=Qd1 hq he1
  have hst:=QtZ hq he1 ⟨by simp,by simp⟩ hi
  obtain ⟨r1,r2,r3,r4,r5,r6⟩:=hq.1
  dsimp only at q1 hst r1 r2 r3 r4 r5 r6
  have hkl:k1.lk.held.length<=1024:=by unfold Lk.sum at r3; omega
  refine Qh (fun s:{s:Nat × Lk // s.1<=k1.lk.held.length/\s.2.sum<=1024}=>⟨95,0,[(12,.int .i64 s.1.1),(11,.pv (.sl (fz Qap k1.lk.held))),(8,.ptr 2 0),(7,.ptr 1 0),(6,.ptr 0 0),(2,.int .i64 st),(1,.int .i64 tx)],[⟨41,true,[.int .i64 0,.int .i64 0,.int .i64 0,.pv (.slc []),.int .i64 0,.int .i64 0,.pv (.slc []),.int .i64 0,.pv (.slc []),.pv (.slc []),.pv (.slc []),.pv (.slc []),.pv (.slc [])]⟩,⟨138,true,[.int .i64 0,.int .i64 0,.int .i64 0,.bool false,.pv (.str []),.int .i64 0]⟩,⟨41,true,Kn.d ⟨k1.pg,k1.nx,k1.lg,k1.pl,s.1.2,k1.tx,k1.ix,k1.la⟩⟩]⟩) (fun s=>k1.lk.held.length - s.1.1) ⟨(0,k1.lk),Nat.zero_le _,r3⟩ (gc [1,2,3]) ?_
  rintro ⟨⟨j,u3⟩,hj,hu3⟩
  dsimp only at hj hu3 |-
  have hx:=fun h:j < k1.lk.held.length=>QaD k1.lk.held j h
  have d1:=QoG ⟨k1.pg,k1.nx,k1.lg,k1.pl,u3,k1.tx,k1.ix,k1.la⟩ ⟨r1,r2,hu3,r4,r5,r6⟩ tx
  have d2:=QrP u3 (by omega) tx
  have F:=@hx
  refine rn F ?_
  repeat' (first
    | with_reducible exact ⟨⟩
    | (refine sG F ?_ ?_<;>intro hZ)
    | (refine sB F ?_ ?_<;>intro hZ)
    | (refine Qk (d1 _ _ hst) rfl ?_; rintro b -; refine rn F ?_)
    | (refine Qk (d2 _ _) rfl ?_; rintro u4 hu4; refine rn F ?_)
    | (refine Qd (id:=14) [0,1,2,3,4,5,6,7,8,9,10,11,12,13,14] [⟨[],[],15,[0,1,2,3,4,5,6,10,11,12,13],[16,17]⟩] (by kernel_rfl) (by kernel_rfl) ?_; refine rn F ?_)
    | (refine Qd (id:=15) [0,1,2,3,4,5,6,7] [⟨[],[],8,[0,3,4,5,6],[9]⟩,⟨[],[],10,[],[]⟩] (by kernel_rfl) (by kernel_rfl) ?_; refine rn F ?_))
  all_goals first
    | exact ⟨⟨(j + 1,u3),by dsimp only; omega,hu3⟩,by dsimp only; omega,(gc [0,1,2])⟩
    | exact ⟨⟨(j + 1,u4),by dsimp only; omega,Nat.le_trans hu4 hu3⟩,by dsimp only; omega,(gc [0,1,2])⟩
    | exact ⟨rfl,rfl,(⟨k1.pg,k1.nx,k1.lg,k1.pl,u3,k1.tx,k1.ix,k1.la⟩,⟨st,0,0,Ce0,0⟩),rfl,⟨r1,r2,hu3,r4,r5,r6⟩,q1,.inl rfl⟩
    | skip
section
attribute [local go_sem] Qbb
theorem Qja (x:Pg) (i:Nat) (h:i < 16) (c:Ce):x.d.take (2 + i * 2) ++ [.pv (.lit (.bool c.set)),.pv (.str c.data)] ++ x.d.drop (2 + i * 2 + 2) = (x.setc i c).d:=QAu x i h c
theorem QvR {e:E} (h:e.okB = true) (hk:e.kind = 1\/e.kind = 2):0<=e.c.sl/\e.c.sl < 16:=by
  unfold E.okB at h
  simp only [Bool.and_eq_true] at h
  have h2:=h.2
  unfold E.kindB Ch.okB at h2
  rcases hk with hk | hk<;>rw [hk] at h2<;>simp at h2<;>omega
theorem Qt0 {k k1:Kn} {e:E} {n1 e1:Int} (hq:QxJ k e (k1,n1,e1)) (h:e1 = 0) (hk:e.kind = 1\/e.kind = 2):0<=e.c.sl/\e.c.sl < 16:=by
  obtain ⟨e',⟨v,s,ho,_⟩,_⟩:=hq.2 h
  have:=QvR ho (by rw [s.1]; exact hk)
  rw [s.2.2.2.1] at this
  exact this
theorem QuC (p:Pl) (x:Pg) (h:p.fs.length<=64):(Qyp p x).1.fs.length<=64:=by
  unfold Qyp
  repeat' split
  all_goals first | exact Nat.zero_le _ | simpa using h
@[go_sem] def kiD (a:Kn × Int):DV:=.tup [.agg a.1.d,.int .i64 a.2]
def QET (k:Kn) (a:Kn × Int):Prop:=a.1.sm/\(a.2 = 0->Ev k.lg a.1.lg/\lgB a.1.lg = true/\a.1.lg.es.length = k.lg.es.length + 1/\VK k)/\(a.2 ≠ 0->a.1 = k)
theorem Qxf (k:Kn) (h:k.sm) (e:E) (hk:e.kind = 1\/e.kind = 2):VCalls prog 188 [.agg k.d,.agg e.d] [] (QF kiD (QET k)):=by
  refine dk Tryz.func188 ?_
  have h':=h
  obtain ⟨h1,h2,h3,h4,h5,h6⟩:=h
  have c1:=QdP k h' e
  have c2:=Qgo k.pl (by omega) e.c.pg
  have c3:=fun x=>QyW k.pl (by omega) x
  have hul:=fun x=>QuC k.pl x h2
  (unfold Tryz.f188; refine rn trivial ?_)
  refine Qk c1 rfl ?_
  rintro ⟨k1,n1,e1⟩ hq
  by_cases he1:e1 = 0
  · subst he1
    obtain ⟨s1,s2⟩:=Qt0 hq rfl hk
    obtain ⟨i,hi⟩:∃ i:Nat,e.c.sl = i:=⟨e.c.sl.toNat,by omega⟩
    have hce:=fun x=>Qja x i (by omega) e.c.a
    have hi16:i < 16:=by omega
    obtain ⟨q1,q2,q3,q4,q5,q6,q7⟩:=Qd1 hq rfl
    obtain ⟨r1,r2,r3,r4,r5,r6⟩:=hq.1
    have hv:VK k:=by obtain ⟨e',⟨v,_⟩,_⟩:=hq.2 rfl; exact v
    dsimp only at r1 r2 r3 r4 r5 r6
    have hw:=hul ⟨((QnF k.pl e.c.pg).1.setc i e.c.a).id,n1,((QnF k.pl e.c.pg).1.setc i e.c.a).cel⟩
    have F:=(And.intro @hi @hce)
    refine rn F ?_
    repeat' (first
      | with_reducible exact ⟨⟩
      | (refine sB F ?_ ?_<;>intro hZ)
      | refine vp F (c2) ?_
      | refine vp F (c3 _) ?_)
    all_goals generalize Qyp k.pl ⟨((QnF k.pl e.c.pg).1.setc i e.c.a).id,n1,((QnF k.pl e.c.pg).1.setc i e.c.a).cel⟩ = w at *
    · exact ⟨rfl,rfl,(k,w.2),rfl,h',fun h=>absurd h (by assumption),fun _=>rfl⟩
    · exact ⟨rfl,rfl,(⟨k1.pg,k1.nx,k1.lg,w.1,k1.lk,k1.tx,k1.ix,k1.la⟩,0),rfl,⟨r1,hw,r3,r4,r5,r6⟩,fun _=>⟨q1,q2,q3,hv⟩,fun h=>absurd rfl h⟩
  · skip
    have F:=@he1
    refine rn F ?_
    exact ⟨rfl,rfl,(k,e1),rfl,h',fun h=>absurd h he1,fun _=>rfl⟩
structure Ac where
  kind:Int
  pg:Int
  sl:Int
  data:List UInt8
@[go_sem] def Ac.d (a:Ac):List DV:=[.int .i64 a.kind,.int .i64 a.pg,.int .i64 a.sl,.pv (.str a.data)]
theorem QuB (p:Pl) (a:Int) (h:p.fs.length<=64):(QBq p a).fs.length<=64:=by
  unfold QBq
  split
  · exact h
  · simpa using h
theorem QsU {p:Pl} {a:Int} (hp:plB p = true) (h:(QnF p a).2 = false):idF p.fs a < 0:=by
  unfold QnF Qbo at h
  rw [hp] at h
  simp only [if_true] at h
  split at h
  · assumption
  · simp at h
def QFh (k:Kn) (a:Ac) (r:Kn × Rs):Prop:=r.1.sm/\Ev k.lg r.1.lg/\(r.2.st = 3->r.1 = k/\r.2.pg = a.pg/\idF k.pl.fs a.pg < 0)
theorem QrZ (k:Kn) (h:k.sm) (hv:VK k) (tx:Int) (a:Ac) (ha:0<=a.sl/\a.sl < 16):VCalls prog 199 [.agg k.d,.int .i64 tx,.agg a.d] [] (QF krD (QFh k a)):=by
  refine dk Tryz.func199 ?_
  have h':=h
  obtain ⟨h1,h2,h3,h4,h5,h6⟩:=h
  have c1:=Qgo k.pl (by omega) a.pg
  have c2:=QyV k.pl (by omega) a.pg
  have hn:=QsU (a:=a.pg) hv.2.2.2.1
  have hul:=QuB k.pl a.pg h2
  have c3:=fun c=>Qxf k h' ⟨0,1,tx,0,0,0,c,[]⟩ (.inl rfl)
  obtain ⟨i,hi⟩:∃ i:Nat,a.sl = i:=⟨a.sl.toNat,by omega⟩
  have hi16:i < 16:=by omega
  generalize QnF k.pl a.pg = g at *
  have hce:=QnP g.1 i hi16
  generalize QBq k.pl a.pg = up at *
  (unfold Tryz.f199; refine rn trivial ?_)
  have F:=(And.intro @hi @hce)
  refine rn F ?_
  repeat' (first
    | with_reducible exact ⟨⟩
    | (refine sB F ?_ ?_<;>intro hZ)
    | refine vp F (c1) ?_
    | refine vp F (c2) ?_
    | (refine Qk (c3 ⟨_,_,⟨_,_⟩,⟨_,_⟩⟩) rfl ?_; rintro ⟨k1,e1⟩ hq; refine rn F ?_)
    | refine vp F (Qaa _) ?_
    | (refine Qd (id:=3) [0,1,2,3] [⟨[],[],4,[1,2,3],[]⟩,⟨[],[],5,[],[]⟩] (by kernel_rfl) (by kernel_rfl) ?_; refine rn F ?_)
    | (refine Qd (id:=6) [0,1,2,3,4,5,6] [⟨[],[],7,[1,2,3,4,5,6],[]⟩,⟨[],[],8,[],[]⟩] (by kernel_rfl) (by kernel_rfl) ?_; refine rn F ?_)
    | (refine Qd (id:=7) [0,1,2,3,4,5,6,7,8,9] [⟨[10],[10],11,[],[]⟩] (by kernel_rfl) (by kernel_rfl) ?_; refine rn F ?_)
    | (refine Qd (id:=12) [0,1] [⟨[],[],2,[0],[]⟩,⟨[],[],3,[1],[]⟩,⟨[],[],4,[],[]⟩] (by kernel_rfl) (by kernel_rfl) ?_; refine rn F ?_))
  all_goals first
    | exact ⟨rfl,rfl,(k,⟨3,0,a.pg,Ce0,0⟩),rfl,h',Ev.refl _,fun _=>⟨rfl,rfl,hn (by first | assumption | simp_all)⟩⟩
    | exact ⟨rfl,rfl,(⟨k.pg,k.nx,k.lg,up,k.lk,k.tx,k.ix,k.la⟩,⟨1,0,0,g.1.cel i,0⟩),rfl,⟨h1,hul,h3,h4,h5,h6⟩,Ev.refl _,fun h=>by simp at h⟩
    | exact ⟨rfl,rfl,(k,QaH e1),rfl,h',Ev.refl _,fun h=>by simp [QaH] at h⟩
    | exact ⟨rfl,rfl,(k1,⟨1,0,0,Ce0,0⟩),rfl,hq.1,(hq.2.1 (by dsimp only; omega)).1,fun h=>by simp at h⟩
    | skip
end
theorem QCX (a b c a' b' c':Int) (d d':List UInt8):QT [.pv (.lit (.int .i64 a)),.pv (.lit (.int .i64 b)),.pv (.lit (.int .i64 c)),.pv (.str d)] [.pv (.lit (.int .i64 a')),.pv (.lit (.int .i64 b')),.pv (.lit (.int .i64 c')),.pv (.str d')] [(0,1),(1,1),(2,1),(3,2)] = some (decide (a = a') && decide (b = b') && decide (c = c') && decide (d = d')):=by simp [QT,QaO,Bool.beq_eq_decide_eq,Bool.and_assoc]
def QEy (k:Kn) (a:Ac) (e:Int):Prop:=e = 0->(1<=a.kind/\a.kind<=7)/\(a.kind<=3->0<=a.sl/\a.sl < 16)
theorem QrY (k:Kn) (a:Ac):VCalls prog 236 [.agg k.d,.agg a.d] [] (QF inD (QEy k a)):=by
  refine dk Tryz.func236 ?_
  unfold QEy
  (unfold Tryz.f236; refine rn trivial ?_)
  have F:=@QCX
  refine rn F ?_
  repeat' (first
    | with_reducible exact ⟨⟩
    | (refine sG F ?_ ?_<;>intro hZ)
    | (refine sB F ?_ ?_<;>intro hZ)
    | (refine Qd (id:=9) [0,1,2,3,4] [⟨[],[],5,[2,3],[6]⟩,⟨[],[],7,[],[]⟩] (by kernel_rfl) (by kernel_rfl) ?_; refine rn F ?_))
  all_goals first
    | exact ⟨rfl,rfl,_,rfl,fun h=>absurd h (by decide)⟩
    | exact ⟨rfl,rfl,0,rfl,fun _=>⟨⟨by omega,by omega⟩,fun _=>⟨by omega,by omega⟩⟩⟩
    | skip
@[go_sem] def gbD (a:Gr × Bool):DV:=.tup [.agg a.1.d,.bool a.2]
theorem Qru (tx:Int) (a:Ac):VCalls prog 197 [.int .i64 tx,.agg a.d] [] (QF gbD fun _=>True):=by
  refine dd Tryz.func197 ?_
  (unfold Tryz.f197; refine rn trivial ?_)
  refine rn F ?_
  repeat' (first
    | with_reducible exact ⟨⟩
    | (refine sB F ?_ ?_<;>intro hZ))
  all_goals first
    | exact ⟨rfl,rfl,(⟨_,_,_,_⟩,_),rfl,trivial⟩
    | skip
def QEm (k:Kn) (tx:Int) (a:Ac) (e:Int):Prop:=e = 0->VK k/\0<=idT k.tx tx/\(1<=a.kind/\a.kind<=7)/\(a.kind<=3->0<=a.sl/\a.sl < 16)
theorem QoA (k:Kn) (h:k.sm) (tx:Int) (a:Ac):VCalls prog 192 [.agg k.d,.int .i64 tx,.agg a.d] [] (QF inD (QEm k tx a)):=by
  refine dk Tryz.func192 ?_
  have c1:=QQ k h
  obtain ⟨h1,h2,h3,h4,h5,h6⟩:=h
  have c2:=QbV k.tx (Nat.le_trans h4.1 (by decide)) tx
  have c3:=QrY k a
  have c4:=Qdj k.lk (by omega) tx
  have c5:=Qru tx a
  unfold QEm
  rcases Q8 k.tx tx with hn | ⟨i,hil,hid,_⟩
  · rw [hn] at c2
    (unfold Tryz.f192; refine rn trivial ?_)
    refine rn F ?_
    repeat' (first
      | with_reducible exact ⟨⟩
      | (refine sB F ?_ ?_<;>intro hZ)
      | (refine Qk (c1) rfl ?_; rintro b hb; refine rn F ?_)
      | refine vp F (c2) ?_)
    all_goals exact ⟨rfl,rfl,_,rfl,fun h=>absurd h (by decide)⟩
  rw [hid] at c2
  have hg:=QdV k.tx i hil
  (unfold Tryz.f192; refine rn trivial ?_)
  have F:=(And.intro @hg @QtX)
  refine rn F ?_
  repeat' (first
    | with_reducible exact ⟨⟩
    | (refine sG F ?_ ?_<;>intro hZ)
    | (refine sB F ?_ ?_<;>intro hZ)
    | (refine Qk (c1) rfl ?_; rintro b hb; refine rn F ?_)
    | refine vp F (c2) ?_
    | (refine Qk (c3) rfl ?_; rintro e3 he3; refine rn F ?_)
    | (refine Qk (c4) rfl ?_; rintro ⟨w,ws⟩ -; refine rn F ?_)
    | (refine Qk (c5) rfl ?_; rintro ⟨g,nd⟩ -; refine rn F ?_))
  all_goals first
    | exact ⟨rfl,rfl,_,rfl,fun h=>absurd h (by first | assumption | decide)⟩
    | exact ⟨rfl,rfl,0,rfl,fun _=>⟨hb (by assumption),by omega,(he3 (by omega)).1,(he3 (by omega)).2⟩⟩
    | skip
theorem Qy5 (k:Kn) (h:k.lk.sum<=5000) (tx:Int):VCalls prog 201 [.agg k.d,.int .i64 tx] [] (QF inD fun _=>True):=by
  refine dd Tryz.func201 ?_
  have c1:=Qne k.lk h tx
  (unfold Tryz.f201; refine rn trivial ?_)
  refine rn F ?_
  repeat' (first
    | with_reducible exact ⟨⟩
    | (refine Qk (c1) rfl ?_; rintro m -; refine rn F ?_)
    | (refine Qk (Qvt m) rfl ?_; rintro n -; refine rn F ?_))
  exact ⟨rfl,rfl,_,rfl,trivial⟩
def doQ (k:Kn) (a:Ac) (r:Kn × Rs):Prop:=r.1.sm/\Ev k.lg r.1.lg/\(r.2.st = 3->r.1.pl = k.pl/\r.2.pg = a.pg/\idF k.pl.fs a.pg < 0)
theorem QBO (k:Kn) (h:k.sm) (tx:Int) (a:Ac):VCalls prog 148 [.agg k.d,.int .i64 tx,.agg a.d] [] (QF krD (doQ k a)):=by
  refine dk Tryz.func148 ?_
  have h':=h
  have c1:=QoA k h tx a
  have c2:=QrS k h tx
  have c3:=Qnb k h tx 1
  obtain ⟨h1,h2,h3,h4,h5,h6⟩:=h
  have hsl:=h4.smL (by omega)
  have c4:=QyQ k.tx hsl tx
  have c5:=Qzd k.tx hsl tx a.sl
  have m4:=QuU (l:=k.tx) tx
  have m5:=QwV (l:=k.tx) tx a.sl
  have c6:=Qru tx a
  have c7:=fun g=>Qoz k.lk (by omega) g
  have hK:=fun (u:Lk) (hu:u.sum<=1024)=>(⟨h1,h2,hu,h4,h5,h6⟩:Kn.sm ⟨k.pg,k.nx,k.lg,k.pl,u,k.tx,k.ix,k.la⟩)
  have c8:=fun (u:Lk) (hu:u.sum<=1024) (hv:VK k)=>QrZ ⟨k.pg,k.nx,k.lg,k.pl,u,k.tx,k.ix,k.la⟩ (hK u hu) hv tx a
  have c9:=fun (u:Lk) (hu:u.sum<=1024)=>Qvw u (by omega) tx
  have c10:=fun (u:Lk) (hu:u.sum<=1024)=>Qnb ⟨k.pg,k.nx,k.lg,k.pl,u,k.tx,k.ix,k.la⟩ (hK u hu) tx 4
  (unfold Tryz.f148; refine rn trivial ?_)
  refine Qk c1 rfl ?_
  rintro er her
  by_cases he:er = 0
  rotate_left
  · skip
    have F:=@he
    refine rn F ?_
    repeat' (first
      | with_reducible exact ⟨⟩
      | refine vp F (Qaa _) ?_
      | (refine Qd (id:=3) [0,1] [⟨[],[],2,[0],[]⟩,⟨[],[],3,[1],[]⟩,⟨[],[],4,[],[]⟩] (by kernel_rfl) (by kernel_rfl) ?_; refine rn F ?_))
    exact ⟨rfl,rfl,(k,QaH er),rfl,h',Ev.refl _,fun h=>by simp [QaH] at h⟩
  obtain ⟨hv,hi,hk,hs⟩:=her he
  subst he
  have F:=trivial
  refine rn F ?_
  repeat' (first
    | with_reducible exact ⟨⟩
    | (refine sB F ?_ ?_<;>intro hZ)
    | (refine Qk (c2 hi) rfl ?_; rintro ⟨k1,r1⟩ hq; refine rn F ?_)
    | (refine Qk (c3 hi) rfl ?_; rintro ⟨k1,r1⟩ hq; refine rn F ?_)
    | refine vp F (c4) ?_
    | refine vp F (c5) ?_
    | refine vp F (Qaa _) ?_
    | (refine Qk (c6) rfl ?_; rintro ⟨g,nd⟩ -; refine rn F ?_)
    | (refine Qk (c7 ⟨_,_,_,_⟩) rfl ?_; rintro ⟨u,hd,e7⟩ hu; refine rn F ?_)
    | (refine Qk (c8 u hu hv (hs (by omega))) rfl ?_; rintro ⟨k1,r1⟩ hq; refine rn F ?_)
    | (refine Qk (c9 u hu) rfl ?_; rintro cy -; refine rn F ?_)
    | (refine Qk (c10 u hu hi) rfl ?_; rintro ⟨k1,r1⟩ hq; refine rn F ?_)
    | (refine Qk (Qy5 ⟨k.pg,k.nx,k.lg,k.pl,u,k.tx,k.ix,k.la⟩ (Nat.le_trans hu (by decide)) tx) rfl ?_; rintro n -; refine rn F ?_)
    | (refine Qd (id:=15) [0,1] [⟨[],[],2,[0],[]⟩,⟨[],[],3,[1],[]⟩,⟨[],[],4,[],[]⟩] (by kernel_rfl) (by kernel_rfl) ?_; refine rn F ?_)
    | (refine Qd (id:=21) [0,1] [⟨[],[],2,[0],[]⟩,⟨[],[],3,[1],[]⟩,⟨[],[],4,[],[]⟩] (by kernel_rfl) (by kernel_rfl) ?_; refine rn F ?_)
    | (refine Qd (id:=27) [0,1] [⟨[],[],2,[1],[]⟩,⟨[],[],3,[],[]⟩] (by kernel_rfl) (by kernel_rfl) ?_; refine rn F ?_)
    | (refine Qd (id:=28) [0,1] [⟨[],[],2,[1],[]⟩,⟨[],[],3,[],[]⟩] (by kernel_rfl) (by kernel_rfl) ?_; refine rn F ?_)
    | (refine Qd (id:=32) [0,1] [⟨[],[],2,[1],[]⟩,⟨[],[],3,[],[]⟩] (by kernel_rfl) (by kernel_rfl) ?_; refine rn F ?_)
    | (refine Qd (id:=33) [0,1] [⟨[],[],2,[1],[]⟩,⟨[],[],3,[],[]⟩] (by kernel_rfl) (by kernel_rfl) ?_; refine rn F ?_)
    | (refine Qd (id:=34) [0,1,2] [⟨[],[],3,[0],[4]⟩,⟨[],[],5,[1,2,4],[]⟩,⟨[],[],6,[],[]⟩] (by kernel_rfl) (by kernel_rfl) ?_; refine rn F ?_))
  all_goals first
    | exact ⟨rfl,rfl,(k,QaH _),rfl,h',Ev.refl _,fun h=>by simp [QaH] at h⟩
    | exact ⟨rfl,rfl,(⟨k.pg,k.nx,k.lg,k.pl,k.lk,(Qq6 k.tx tx).1,k.ix,k.la⟩,⟨1,0,0,Ce0,0⟩),rfl,⟨h1,h2,h3,m4,h5,h6⟩,Ev.refl _,fun h=>by simp at h⟩
    | exact ⟨rfl,rfl,(⟨k.pg,k.nx,k.lg,k.pl,k.lk,(QtS k.tx tx a.sl).1,k.ix,k.la⟩,⟨1,0,0,Ce0,0⟩),rfl,⟨h1,h2,h3,m5,h5,h6⟩,Ev.refl _,fun h=>by simp at h⟩
    | exact ⟨rfl,rfl,(⟨k.pg,k.nx,k.lg,k.pl,u,k.tx,k.ix,k.la⟩,⟨2,n,0,Ce0,0⟩),rfl,hK u hu,Ev.refl _,fun h=>by simp at h⟩
    | exact ⟨rfl,rfl,(k1,r1),rfl,hq.1,hq.2.1,fun h=>absurd h hq.2.2⟩
    | exact ⟨rfl,rfl,(k1,r1),rfl,hq.1,hq.2.1,fun h=>⟨Eq.trans (congrArg Kn.pl (hq.2.2 h).1) rfl,(hq.2.2 h).2.1,(hq.2.2 h).2.2⟩⟩
    | exact ⟨rfl,rfl,(k1,r1),rfl,hq.1,hq.2.1,fun h=>by have:=hq.2.2; dsimp only at this h; omega⟩
    | exact ⟨rfl,rfl,(k,r1),rfl,h',Ev.refl _,fun h=>by dsimp only at h; omega⟩
    | skip
section
attribute [local go_sem] Qbb
theorem Qxs {l:List Fm} {a:Int} (h:∃ i,i < l.length/\a = (l.getD i Fm0).pg.id):∃ j:Nat,j < l.length/\idF l a = j/\(l.getD j Fm0).pg.id = a:=by
  obtain ⟨i,hi,ha⟩:=h
  rcases Qce l a with hn | ⟨j,hj,h1,h2⟩
  · unfold idF Qg7 at hn
    rw [if_pos (List.any_eq_true.2 ⟨l[i],List.getElem_mem hi,by rw [ha,Qn l i hi]; simp⟩)] at hn
    omega
  · exact ⟨j,hj,h1,h2⟩
theorem Qto (p:Pl) (a:Int) (h:p.fs.length<=64):(QmF p a).1.fs.length<=64:=by
  unfold QmF
  repeat' split
  all_goals first
    | exact Nat.zero_le _
    | (simp only [List.length_append,List.length_take,List.length_drop]; omega)
@[go_sem] def QDI (a:Kn × Pg × Bool × Int):DV:=.tup [.agg a.1.d,.agg a.2.1.d,.bool a.2.2.1,.int .i64 a.2.2.2]
def QDH (k:Kn) (a:Kn × Pg × Bool × Int):Prop:=a.1.sm/\(a.2.2.2 = 0->Ev k.lg a.1.lg/\a.1.tx = k.tx/\(a.2.2.1 = true->plB a.1.pl = true/\SameF k.pl.fs a.1.pl.fs/\∃ i,i < a.1.pl.fs.length/\idF a.1.pl.fs a.2.1.id = i/\(a.1.pl.fs.getD i Fm0).pg = a.2.1/\(a.1.pl.fs.getD i Fm0).dirty = true))
theorem QyR (k:Kn) (h:k.sm):VCalls prog 180 [.agg k.d] [] (QF QDI (QDH k)):=by
  refine dk Tryz.func180 ?_
  have h':=h
  have c1:=QQ k h
  obtain ⟨h1,h2,h3,h4,h5,h6⟩:=h
  have c2:=QyT k.pl (by omega)
  (unfold Tryz.f180; refine rn trivial ?_)
  refine Qk c1 rfl ?_
  rintro b hb
  cases b
  · skip
    refine rn F ?_
    exact ⟨rfl,rfl,(Kn0,Pg0,false,15),rfl,QbR,fun h=>by simp at h⟩
  have hv:=hb rfl
  obtain ⟨v1,v2,v3,v4,v5,v6,v7⟩:=hb rfl
  have hd:=Qkq v4
  simp only [Pl.hd] at hd
  refine rn F ?_
  repeat' (first
    | with_reducible exact ⟨⟩
    | (refine sB F ?_ ?_<;>intro hZ))
  · exact ⟨rfl,rfl,(k,Pg0,false,0),rfl,h',fun _=>⟨Ev.refl _,rfl,fun h=>by simp at h⟩⟩
  refine Qk c2 rfl ?_
  rintro ⟨p,id,e⟩ ⟨w1,w2,w3⟩
  obtain rfl:e = 0:=w2 v4 (by omega)
  obtain ⟨_,w4,w5,w6,w7⟩:=w1 rfl
  obtain ⟨i,hi,hid,hix⟩:=Qxs w7
  dsimp only at w3 w4 w5 w6 hi hid hix
  have c3:=Qcr p (by omega) id
  have hf:Qbo p id = i:=by unfold Qbo; rw [if_pos w4]; exact hid
  rw [hf] at c3
  have hg:=QbP p.fs i hi
  have c4:=Qvd p (by omega) id
  have hdl:=Qto p id (by omega)
  have hsm:∀ q:Pl,q.fs.length<=64->(⟨k.pg,k.nx,k.lg,q,k.lk,k.tx,k.ix,k.la⟩:Kn).sm:=fun q hq=>⟨h1,hq,h3,h4,h5,h6⟩
  have c5:=Qei ⟨k.pg,k.nx,k.lg,p,k.lk,k.tx,k.ix,k.la⟩ (hsm p (by omega))
  generalize hff:p.fs.getD i Fm0 = f at *
  have F:=@hg
  refine rn F ?_
  repeat' (first
    | with_reducible exact ⟨⟩
    | (refine sB F ?_ ?_<;>intro hZ)
    | refine vp F (c3) ?_
    | refine vp F (c4) ?_
    | (refine Qk (c5 _) rfl ?_; rintro d hd2; refine rn F ?_)
    | (refine Qd (id:=7) [0,1,2,3] [⟨[7],[],4,[0,1],[5,6]⟩,⟨[7],[7],8,[],[]⟩] (by kernel_rfl) (by kernel_rfl) ?_; refine rn F ?_)
    | (refine Qd (id:=11) [0,1,2,3,5,6] [⟨[],[],4,[1,2,5,6],[]⟩,⟨[],[],7,[5,6],[]⟩,⟨[],[],8,[],[]⟩,⟨[],[],9,[],[]⟩,⟨[],[],10,[],[]⟩] (by kernel_rfl) (by kernel_rfl) ?_; refine rn F ?_))
  · exact ⟨rfl,rfl,(⟨k.pg,k.nx,k.lg,(QmF p id).1,k.lk,k.tx,k.ix,k.la⟩,Pg0,false,0),rfl,hsm _ hdl,fun _=>⟨Ev.refl _,rfl,fun h=>by simp at h⟩⟩
  · exact ⟨rfl,rfl,(⟨k.pg,k.nx,⟨k.lg.f,k.lg.es,d⟩,p,k.lk,k.tx,k.ix,k.la⟩,f.pg,true,0),rfl,⟨h1,by dsimp only; omega,h3,h4,h5,h6⟩,fun _=>⟨Ev.force hd2,rfl,fun _=>⟨w4,w5,i,hi,by dsimp only; rw [hix]; exact hid,by dsimp only; rw [hff],by dsimp only; rw [hff]; first | assumption | simp_all⟩⟩⟩
@[go_sem] def QCA (a:Kn × Pg × Int):DV:=.tup [.agg a.1.d,.agg a.2.1.d,.int .i64 a.2.2]
def QCz (k:Kn) (n:Int) (a:Kn × Pg × Int):Prop:=a.1.sm/\(a.2.2 = 0->Ev k.lg a.1.lg/\0<=Qbo k.pl n)
theorem Qvs (k:Kn) (h:k.sm) (n:Int):VCalls prog 105 [.agg k.d,.int .i64 n] [] (QF QCA (QCz k n)):=by
  refine dk Tryz.func105 ?_
  have c1:=QQ k h
  have h':=h
  obtain ⟨h1,h2,h3,h4,h5,h6⟩:=h
  have c2:=Qgo k.pl (by omega) n
  have c3:=Qei k h'
  have hz:(QnF k.pl n).2 = true->0<=Qbo k.pl n:=fun h=>by
    unfold QnF at h
    split at h
    · simp at h
    · omega
  generalize QnF k.pl n = g at *
  (unfold Tryz.f105; refine rn trivial ?_)
  refine rn F ?_
  repeat' (first
    | with_reducible exact ⟨⟩
    | (refine sB F ?_ ?_<;>intro hZ)
    | (refine Qk (c1) rfl ?_; rintro b -; refine rn F ?_)
    | refine vp F (c2) ?_
    | (refine Qk (c3 _) rfl ?_; rintro d hd; refine rn F ?_)
    | (refine Qd (id:=6) [0,1,2,4] [⟨[],[],3,[1,4],[]⟩,⟨[],[],5,[4],[]⟩,⟨[],[],6,[],[]⟩,⟨[],[],7,[],[]⟩] (by kernel_rfl) (by kernel_rfl) ?_; refine rn F ?_))
  all_goals first
    | exact ⟨rfl,rfl,(Kn0,Pg0,15),rfl,QbR,fun h=>by simp at h⟩
    | exact ⟨rfl,rfl,(Kn0,Pg0,18),rfl,QbR,fun h=>by simp at h⟩
    | exact ⟨rfl,rfl,(⟨k.pg,k.nx,⟨k.lg.f,k.lg.es,d⟩,k.pl,k.lk,k.tx,k.ix,k.la⟩,g.1,0),rfl,⟨h1,h2,h3,h4,h5,h6⟩,fun _=>⟨Ev.force hd,hz (by first | assumption | simp_all)⟩⟩
    | skip
theorem Qpq (p:Pl) (a n:Int) (h:p.fs.length<=64):(QbQ p a n).1.fs.length<=64:=by
  unfold QbQ
  repeat' split
  all_goals first | exact Nat.zero_le _ | exact h | simpa using h
def Qt9 (k:Kn) (id n:Int) (a:Kn × Int):Prop:=a.1.sm/\(a.2 = 0->VK k/\Ev k.lg a.1.lg/\a.1.tx = k.tx/\(0<=Qbo k.pl id->a.1.pl = (QbQ k.pl id n).1/\(QbQ k.pl id n).2 = 0)/\(Qbo k.pl id < 0->a.1.pl = k.pl))
theorem Qou (k:Kn) (h:k.sm) (id n:Int):VCalls prog 126 [.agg k.d,.int .i64 id,.int .i64 n] [] (QF kiD (Qt9 k id n)):=by
  refine dk Tryz.func126 ?_
  have c1:=QQ k h
  have h':=h
  obtain ⟨h1,h2,h3,h4,h5,h6⟩:=h
  have c2:=QfL k.lg (by omega)
  have c3:=Qcr k.pl (by omega) id
  have c4:=fun (h:n<=1099511627776) (h0:0<=n)=>Qrp k.pl (by omega) id n h h0
  have c5:=QdP k h' ⟨0,7,0,0,0,n,⟨id,0,Ce0,Ce0⟩,[]⟩
  have hcl:=Qpq k.pl id n h2
  (unfold Tryz.f126; refine rn trivial ?_)
  refine Qk c1 rfl ?_
  rintro b hb
  cases b
  · skip
    refine rn F ?_
    exact ⟨rfl,rfl,(Kn0,15),rfl,QbR,fun h=>by simp at h⟩
  have hv:=hb rfl
  have hls:QgH k.lg<=1099511627776:=by
    unfold QgH; rw [if_pos hv.2.2.1]; exact Qsx hv.2.2.1
  refine rn F ?_
  repeat' (first
    | with_reducible exact ⟨⟩
    | (refine sG F ?_ ?_<;>intro hZ)
    | (refine sB F ?_ ?_<;>intro hZ)
    | refine vp F (c2) ?_
    | refine vp F (c3) ?_
    | refine vp F (c4 (by omega) (by omega)) ?_
    | (refine Qk (c5) rfl ?_; rintro ⟨k1,n1,e1⟩ hq; refine rn F ?_))
  all_goals first
    | exact ⟨rfl,rfl,(Kn0,1),rfl,QbR,fun h=>by simp at h⟩
    | exact ⟨rfl,rfl,(Kn0,(QbQ k.pl id n).2),rfl,QbR,fun h=>absurd h (by assumption)⟩
    | exact ⟨rfl,rfl,(Kn0,e1),rfl,QbR,fun h=>absurd h (by assumption)⟩
    | (have he1:e1 = 0:=by omega
       obtain ⟨q1,q2,q3,q4,q5,q6,q7⟩:=Qd1 hq he1
       have q8:=Qt1 hq he1 rfl
       obtain ⟨r1,r2,r3,r4,r5,r6⟩:=hq.1
       first
         | exact ⟨rfl,rfl,(⟨k1.pg,k1.nx,k1.lg,(QbQ k.pl id n).1,k1.lk,k1.tx,k1.ix,k1.la⟩,0),rfl,⟨r1,hcl,r3,r4,r5,r6⟩,fun _=>⟨hv,q1,q8,fun _=>⟨rfl,by omega⟩,fun h=>by omega⟩⟩
         | exact ⟨rfl,rfl,(⟨k1.pg,k1.nx,k1.lg,k.pl,k1.lk,k1.tx,k1.ix,k1.la⟩,0),rfl,⟨r1,h2,r3,r4,r5,r6⟩,fun _=>⟨hv,q1,q8,fun h=>by omega,fun _=>rfl⟩⟩)
    | skip
end
section
attribute [local go_sem] Qbb
theorem Qr2 {p:Pl} {x:Pg} (h:(QpO p x).2 = 0):plB p = true/\QaP x = 0/\idF p.fs x.id < 0/\¬ (p.fs.length:Int) = p.size:=by
  unfold QpO at h
  split at h
  · simp at h
  rename_i q1
  split at h
  · rename_i q2; exact absurd h q2
  rename_i q2
  split at h
  · simp at h
  rename_i q3
  split at h
  · simp at h
  rename_i q4
  exact ⟨by simpa using q1,by simpa using q2,by omega,q4⟩
def QDh (p:Pl) (x:Pg) (o:Nat):Qa:=[⟨31,true,[.int .i64 p.size,.own (o + 5) 37 0 (p.fs.length + 1),.int .i64 p.hand]⟩,⟨178,true,x.d⟩,⟨31,true,[.int .i64 p.size,.own (o + 5) 37 0 (p.fs.length + 1),.int .i64 p.hand]⟩,⟨182,false,[]⟩,⟨182,true,Fm.d ⟨x,false,0,true⟩⟩,⟨182,true,cells Qcn (p.fs ++ [⟨x,false,0,true⟩])⟩]
theorem QyY (p:Pl) (hl:p.fs.length<=100000) (x:Pg) (h:(QpO p x).2 = 0):VCalls prog 184 [.agg p.d,.agg x.d] [] fun r h'=>r = .tup [.agg [.int .i64 p.size,.own 5 37 0 (p.fs.length + 1),.int .i64 p.hand],.int .i64 0]/\h' = QDh p x 0:=by
  refine Qa4 (fn:=Tryz.f184) Tryz.func184 rfl (by kernel_rfl) (by simp [Tryz.f184]) ?_
  obtain ⟨e1,e2,e3,e4⟩:=Qr2 h
  have c1:=Qam p (by omega)
  have c2:=Qdn x
  have c3:=Qcs p (by omega) x.id
  rw [e1] at c1
  rw [e2] at c2
  have e5:¬ 0<=idF p.fs x.id:=by omega
  generalize idF p.fs x.id = m at *
  (unfold Tryz.f184; refine rn trivial ?_)
  have F:=(And.intro @e5 @e4)
  refine rn F ?_
  repeat' (first
    | with_reducible exact ⟨⟩
    | refine vp F (c1) ?_
    | refine vp F (c2) ?_
    | refine vp F (c3) ?_
    | (refine Qd (id:=10) [0,1,3,4] [⟨[5],[],2,[0,3,4],[]⟩,⟨[5],[5],6,[0,1,3,4],[7]⟩,⟨[],[],8,[],[]⟩] (by kernel_rfl) (by kernel_rfl) ?_; refine rn F ?_))
  all_goals rfl
theorem Qib (hp h':Qa):QS hp [] h' = hp ++ h'.map (QcG (back [] hp.length)):=by
  unfold QS
  congr 1
  apply List.ext_getElem?
  intro k
  rw [List.getElem?_map]
  by_cases hk:k < hp.length
  · rw [List.getElem?_range hk]
    simp [List.getElem?_eq_getElem hk]
  · rw [List.getElem?_eq_none (l:=List.range hp.length) (by simpa using hk),List.getElem?_eq_none (l:=hp) (by omega)]
    rfl
theorem QBn {hp:Qa} {K:DV->Qa->Prop} (p:Pl) (hl:p.fs.length<=100000) (x:Pg) (hz:(QpO p x).2 = 0) (h:K (.tup [.agg [.int .i64 p.size,.own (hp.length + 5) 37 0 (p.fs.length + 1),.int .i64 p.hand],.int .i64 0]) (hp ++ QDh p x hp.length)):VCalls prog 184 [.agg p.d,.agg x.d] hp K:=by
  refine (VCalls.frame [] List.nodup_nil rfl rfl (QyY p hl x hz) rfl rfl).mono ?_
  rintro r h2 ⟨r0,h',⟨rfl,rfl⟩,-,rfl,rfl⟩
  rw [Qib]
  have e1:QcG (back [] hp.length) ⟨178,true,x.d⟩ = ⟨178,true,x.d⟩:=QaL rfl
  have e2:QcG (back [] hp.length) ⟨182,true,Fm.d ⟨x,false,0,true⟩⟩ = ⟨182,true,Fm.d ⟨x,false,0,true⟩⟩:=QaL rfl
  have e3:QcG (back [] hp.length) ⟨182,true,cells Qcn (p.fs ++ [⟨x,false,0,true⟩])⟩ = ⟨182,true,cells Qcn (p.fs ++ [⟨x,false,0,true⟩])⟩:=QaL (Qr _ _ _)
  simp only [QDh,List.map_cons,List.map_nil,e1,e2,e3] at h |-
  exact h
theorem QBF (l:List Fm) (f:Fm) (b:Bool):(cells Qcn (l ++ [f])).set (l.length * 37 + 34) (.pv (.lit (.bool b))) = cells Qcn (l ++ [⟨f.pg,b,f.rc,f.used⟩]):=by
  rw [<- QtU,<- QtU,<- QDj l,List.set_append_right _ _ (Nat.le_add_right _ _),Nat.add_sub_cancel_left]; rfl
theorem QBE (l:List Fm) (f:Fm) (n:Int):(cells Qcn (l ++ [f])).set (l.length * 37 + 35) (.pv (.lit (.int .i64 n))) = cells Qcn (l ++ [⟨f.pg,f.dirty,n,f.used⟩]):=by
  rw [<- QtU,<- QtU,<- QDj l,List.set_append_right _ _ (Nat.le_add_right _ _),Nat.add_sub_cancel_left]; rfl
def QEL (k:Kn) (x:Pg) (a:Kn × Int):Prop:=a.1.sm/\(a.2 = 0->a.1.lg = k.lg/\a.1.tx = k.tx/\0<=idF a.1.pl.fs x.id)
theorem Qwg (l:List Fm) (f:Fm):0<=idF (l ++ [f]) f.pg.id:=by
  obtain ⟨j,_,h,_⟩:=Qxs (l:=l ++ [f]) (a:=f.pg.id) ⟨l.length,by simp,by rw [List.getD_eq_getElem?_getD,List.getElem?_append_right (Nat.le_refl _),Nat.sub_self]; rfl⟩
  omega
theorem Qrf (k:Kn) (h:k.sm) (x:Pg):VCalls prog 140 [.agg k.d,.agg x.d] [] (QF kiD (QEL k x)):=by
  refine dk Tryz.func140 ?_
  have h':=h
  have c1:=QQ k h
  have c2:=Qma k h x.id
  obtain ⟨h1,h2,h3,h4,h5,h6⟩:=h
  have c3:=QyX k.pl (by omega) x
  have c4:=QfK k (by omega) x.id
  (unfold Tryz.f140; refine rn trivial ?_)
  refine rn F ?_
  repeat' (first
    | with_reducible exact ⟨⟩
    | (refine sG F ?_ ?_<;>intro hZ)
    | (refine sB F ?_ ?_<;>intro hZ)
    | (refine Qk (c1) rfl ?_; rintro b hb; refine rn F ?_)
    | (refine Qk (c2) rfl ?_; rintro n -; refine rn F ?_)
    | (refine Qd (id:=5) [0,1,2,3,4] [⟨[],[],5,[0,1,3],[6]⟩,⟨[],[],7,[0,1,2,3,4],[]⟩] (by kernel_rfl) (by kernel_rfl) ?_; refine rn F ?_)
    | (refine Qd (id:=7) [0,1,2,3,4] [⟨[],[],5,[0,1,3],[6]⟩,⟨[],[],7,[0,1,2,3,4],[]⟩] (by kernel_rfl) (by kernel_rfl) ?_; refine rn F ?_))
  all_goals first
    | exact ⟨rfl,rfl,(Kn0,_),rfl,QbR,fun h=>by simp at h⟩
    | skip
  have hpe:(QpO k.pl x).2 ≠ 0->(QpO k.pl x).1 = Pl0:=fun h=>by
    unfold QpO at h |-
    repeat' split
    all_goals first | rfl | simp_all
  by_cases hz:(QpO k.pl x).2 = 0
  rotate_left
  · rw [hpe hz] at c3
    have F:=@hz
    refine rn F ?_
    repeat' (first
      | with_reducible exact ⟨⟩
      | refine vp F (c3) ?_)
    exact ⟨rfl,rfl,(Kn0,_),rfl,QbR,fun h=>absurd h hz⟩
  refine QBn k.pl (by omega) x hz ?_
  obtain ⟨p1,p2,p3,p4⟩:=Qr2 hz
  have hd:=Qkq p1
  simp only [Pl.hd] at hd
  unfold QDh
  have s34:=QBF k.pl.fs
  have s35:=QBE k.pl.fs
  have hi0:=Qwg k.pl.fs
  have hnn:k.pl.fs.length + 1 - 1 = k.pl.fs.length:=by omega
  have h34:(k.pl.fs.length * 37 + 34 < (k.pl.fs.length + 1) * 37) = True:=eq_true (by omega)
  have h35:(k.pl.fs.length * 37 + 35 < (k.pl.fs.length + 1) * 37) = True:=eq_true (by omega)
  have F:=(And.intro @s34 (And.intro @s35 (And.intro @hnn (And.intro @h34 @h35))))
  refine rn F ?_
  repeat' (first
    | with_reducible exact ⟨⟩
    | (refine sB F ?_ ?_<;>intro hZ)
    | (refine Qk (c4) rfl ?_; rintro ⟨d,b2⟩ -; refine rn F ?_))
  rotate_left
  · exact ⟨rfl,rfl,(⟨k.pg,k.nx,k.lg,⟨k.pl.size,k.pl.fs ++ [⟨x,false,0,true⟩],k.pl.hand⟩,k.lk,k.tx,k.ix,k.la⟩,0),rfl,⟨h1,by simp; omega,h3,h4,h5,h6⟩,fun _=>⟨rfl,rfl,hi0 ⟨x,false,0,true⟩⟩⟩
  refine VLoop.nilOwn 10 190 3 rfl ?_
  refine rn trivial ?_
  refine Qh (fun s:{s:Nat × List Dt // s.1<=k.la.length/\s.2.length<=s.1}=>⟨113,0,[(11,.int .i64 s.1.1),(10,.own 5 3 0 s.1.2.length),(6,.ptr 4 0),(4,.ptr 2 0),(3,.ptr 1 0),(2,.ptr 0 0)],
    [⟨41,true,k.d⟩,⟨178,true,x.d⟩,⟨41,true,[.int .i64 0,.int .i64 0,.int .i64 0,.pv (.slc []),.int .i64 0,.int .i64 0,.pv (.slc []),.int .i64 0,.pv (.slc []),.pv (.slc []),.pv (.slc []),.pv (.slc []),.pv (.slc [])]⟩,⟨182,true,cells Qcn (k.pl.fs ++ [⟨x,true,d.rc,true⟩])⟩,⟨31,true,[.int .i64 k.pl.size,.own 3 37 0 (k.pl.fs.length + 1),.int .i64 k.pl.hand]⟩,⟨190,true,cells Qdt s.1.2⟩]⟩) (fun s=>k.la.length - s.1.1) ⟨(0,[]),by simp⟩ (gc [0,1,2,8,9,11]) ?_
  rintro ⟨⟨i,out⟩,hi,ho⟩
  dsimp only at hi ho |-
  have hy:=fun h:i < k.la.length=>Qfm k.la i h
  have hb:(out.length + 1) * 24<=140737488355328:=by omega
  have F:=(And.intro @hy @hb)
  refine rn F ?_
  repeat' (first
    | with_reducible exact ⟨⟩
    | (refine sB F ?_ ?_<;>intro hZ)
    | (refine Qd (id:=20) [0,1,2,3,4,5,6,7,8] [] (by kernel_rfl) (by kernel_rfl) ?_; refine rn F ?_))
  all_goals first
    | exact ⟨⟨(i + 1,out),by dsimp only; omega,by dsimp only; omega⟩,by dsimp only; omega,(gc [0,1,2,3,4,5])⟩
    | exact ⟨⟨(i + 1,out ++ [⟨(k.la.getD i Dt0).pg,(k.la.getD i Dt0).rc,(k.la.getD i Dt0).last⟩]),by dsimp only; omega,by simp; omega⟩,by dsimp only; omega,by dsimp only; rw [List.length_append]; exact (gc [0,1,2,3,4,7])⟩
    | exact ⟨rfl,rfl,(⟨k.pg,k.nx,k.lg,⟨k.pl.size,k.pl.fs ++ [⟨x,true,d.rc,true⟩],k.pl.hand⟩,k.lk,k.tx,k.ix,out⟩,0),rfl,⟨h1,by simp; omega,h3,h4,h5,by dsimp only; omega⟩,fun _=>⟨rfl,rfl,hi0 ⟨x,true,d.rc,true⟩⟩⟩
    | skip
end
theorem QEo (l:List (List UInt8)):(cells Qdu l).length = l.length * 1:=QG Qdu l
theorem QFb (l:List (List UInt8)) (n:Nat) (h:l.length * 1<=n):(cells Qdu l).take n = cells Qdu l:=by rw [List.take_of_length_le]; rw [QEo]; exact h
theorem QEM (l:List (List UInt8)):(fz Qdu l = []\/(fz Qdu l)[0]?.map List.length = some 1) = True:=Qfl Qdu l
theorem QEY {n:Nat} {hp:Qa} {len:Nat} {l:List (List UInt8)} (h:l.length = len):QgN n hp 0 1 len (some (cells Qdu l)) = some (.sl (fz Qdu l)):=QU Qdu h
attribute [go_sem] QEo QFb QEM QEY
theorem Qxw (l:List (List UInt8)) (i:Nat) (h:i < l.length):(fz Qdu l)[i]? = some [.str (l.getD i [])]:=Qc1 Qdu l [] i h
theorem QD8 (l:List (List UInt8)) (x:List UInt8):cells Qdu l ++ [.pv (.str x)] = cells Qdu (l ++ [x]):=by rw [Qx]; rfl
theorem QEC (l:List (List UInt8)):DV.wk.go (cells Qdu l) = cells Qdu l:=Qbe Qdu l fun a p hp=>by
  simp [Qdu] at hp; subst hp; rfl
attribute [go_sem] QD8 QEC
structure Dv where
  ps:List (List UInt8)
  wr:Int
  dead:Bool
@[go_sem] def Dv.d (v:Dv):List DV:=[.pv (.sl (fz Qdu v.ps)),.int .i64 v.wr,.pv (.sl []),.bool v.dead,.pv (.sl [])]
def Dv0:Dv:=⟨[],0,false⟩
def QEA (v:Dv):Prop:=(1<=v.ps.length/\v.ps.length<=64)/\(0<=v.wr/\v.wr<=1099511627776)/\∀ i,i < v.ps.length->(v.ps.getD i []).length = 256
theorem QrO (v:Dv) (hl:v.ps.length<=100000):VCalls prog 206 [.agg v.d] [] (QF boD fun b=>b = true->QEA v):=by
  refine dd Tryz.func206 ?_
  (unfold Tryz.f206; refine rn trivial ?_)
  refine rn F ?_
  repeat' (first
    | with_reducible exact ⟨⟩
    | (refine sG F ?_ ?_<;>intro hZ))
  all_goals first
    | exact ⟨rfl,rfl,false,rfl,fun h=>by cases h⟩
    | skip
  refine Qh (fun s:Okay v.ps.length (fun i=>decide ((v.ps.getD i []).length = 256))=>⟨99,0,[(4,.int .i64 s.i),(3,.int .i64 v.ps.length),(1,.ptr 0 0)],[⟨82,true,v.d⟩]⟩) (fun s=>v.ps.length - s.i) (Okay.start _ _) (gc [0]) ?_
  intro s
  have hsi:=s.hi
  have hg:=fun h:s.i < v.ps.length=>Qxw v.ps s.i h
  have F:=@hg
  refine rn F ?_
  repeat' (first
    | with_reducible exact ⟨⟩
    | (refine sB F ?_ ?_<;>intro hZ))
  all_goals first
    | exact ⟨rfl,rfl,false,rfl,fun h=>by cases h⟩
    | exact ⟨s.next (by omega) (decide_eq_true (by omega)),s.dec (by omega),(gc [0])⟩
    | skip
  have hall:=s.all (by omega)
  simp only [List.all_eq_true,List.mem_range,decide_eq_true_eq] at hall
  refine Qh (fun s:Unit=>⟨99,0,[(5,.int .i64 0),(3,.int .i64 v.ps.length),(1,.ptr 0 0)],[⟨82,true,v.d⟩]⟩) (fun s=>0) () (gc [0]) ?_
  intro _
  have F:=trivial
  refine rn F ?_
  refine Qh (fun s:Unit=>⟨99,0,[(6,.int .i64 0),(1,.ptr 0 0)],[⟨82,true,v.d⟩]⟩) (fun s=>0) () (gc [0]) ?_
  intro _
  have F:=trivial
  refine rn F ?_
  exact ⟨rfl,rfl,true,rfl,fun _=>⟨⟨by omega,by omega⟩,⟨by omega,by omega⟩,fun i hi=>hall i hi⟩⟩
def usQ (v:Dv) (n e:Int):Prop:=e = 0->QEA v/\0<=n/\n < v.ps.length
theorem Qgm (v:Dv) (hl:v.ps.length<=100000) (n:Int):VCalls prog 159 [.agg v.d,.int .i64 n] [] (QF inD (usQ v n)):=by
  refine dd Tryz.func159 ?_
  have c1:=QrO v hl
  unfold usQ
  (unfold Tryz.f159; refine rn trivial ?_)
  refine rn F ?_
  repeat' (first
    | with_reducible exact ⟨⟩
    | (refine sG F ?_ ?_<;>intro hZ)
    | (refine sB F ?_ ?_<;>intro hZ)
    | (refine Qk (c1) rfl ?_; rintro b hb; refine rn F ?_))
  all_goals first
    | exact ⟨rfl,rfl,_,rfl,fun h=>absurd h (by decide)⟩
    | exact ⟨rfl,rfl,0,rfl,fun _=>⟨hb (by assumption),by omega,by omega⟩⟩
    | skip
theorem QBQ (n:Int):VCalls prog 181 [.pv (.sl []),.int .i64 n] [] (Ret (.bool false)):=by
  refine dd Tryz.func181 ?_
  (unfold Tryz.f181; refine rn trivial ?_)
  refine Qh (fun s:Unit=>⟨18,0,[(5,.int .i64 0),(1,.int .i64 n),(0,.pv (.sl []))],[]⟩) (fun s=>0) () (gc []) ?_
  intro _
  (refine rn F ?_; try with_reducible exact ⟨⟩)
theorem Qov (n:Int):VCalls prog 207 [.pv (.sl []),.int .i64 n] [] (Ret (.pv (.sl []))):=by
  refine dk Tryz.func207 ?_
  (unfold Tryz.f207; refine rn trivial ?_)
  refine VLoop.wkS ?_
  refine rn trivial ?_
  refine Qh (fun s:Unit=>⟨27,0,[(6,.int .i64 0),(5,.pv (.sl [])),(1,.int .i64 n),(0,.pv (.sl []))],[]⟩) (fun s=>0) () (gc []) ?_
  intro _
  (refine rn F ?_; try with_reducible exact ⟨⟩)
@[go_sem] def siD (a:List UInt8 × Int):DV:=.tup [.pv (.str a.1),.int .i64 a.2]
theorem Qvu (v:Dv) (hl:v.ps.length<=100000) (n:Int):VCalls prog 136 [.agg v.d,.int .i64 n] [] (QF siD fun a=>a.2 = 0->a.1.length = 256):=by
  refine dd Tryz.func136 ?_
  have c1:=Qgm v hl n
  have c2:=QBQ n
  (unfold Tryz.f136; refine rn trivial ?_)
  have hg:=fun h:n.toNat < v.ps.length=>Qxw v.ps n.toNat h
  refine Qk c1 rfl ?_
  rintro e he
  by_cases h0:e = 0
  · obtain ⟨q1,q2,q3⟩:=he h0
    subst h0
    have F:=@hg
    refine rn F ?_
    repeat' (first
      | with_reducible exact ⟨⟩
      | refine vp F (c2) ?_)
    exact ⟨rfl,rfl,(v.ps.getD n.toNat [],0),rfl,fun _=>q1.2.2 _ (by omega)⟩
  · skip
    have F:=@h0
    refine rn F ?_
    exact ⟨rfl,rfl,([],e),rfl,fun h=>absurd h h0⟩
section
attribute [local go_sem] Qbb
theorem QqH {P:Program} {g:FuncId} {args args0:List DV} {hp:Qa} {K:DV->Qa->Prop} {r0 r2:DV} {B B':Blk} (k:Nat) (c:VCalls P g args0 [B] fun r h'=>r = r0/\h' = [B']) (hk:hp[k]? = some B) (hB:B.live = true/\DV.nums.go (fun _=>false) B.cells = true) (hB':DV.nums.go (fun _=>false) B'.cells = true)
    (ha0:args0 = args.map (DV.ren fun j=>[k].idxOf j)) (ha:DV.nums.go [k].contains args = true) (hr:r0.ren (back [k] hp.length) = r2) (h:K r2 (hp.set k B')):VCalls P g args hp K:=by
  subst hr
  have hlt:k < hp.length:=(List.getElem?_eq_some_iff.1 hk).1
  have hg:hp.getD k default = B:=by rw [List.getD_eq_getElem?_getD,hk]; rfl
  have hpl:Qgw hp [k]:=⟨⟨hlt,by rw [hg]; exact hB.2⟩,trivial⟩
  refine (VCalls.frame [k] (by simp) (by rw [QcW hpl]; simp only [List.map_cons,List.map_nil,hg]) (QcX hpl) c ha0 ha).mono ?_
  rintro r h2 ⟨r1,h',⟨rfl,rfl⟩,-,rfl,rfl⟩
  rw [QpA hlt,List.map_nil,List.append_nil,QaL hB']
  exact h
def dvO (k n:Nat) (wr:Int) (dead:Bool):DV:=.agg [.own k 1 0 n,.int .i64 wr,.pv (.sl []),.bool dead,.pv (.sl [])]
theorem QyC (l:List (List UInt8)) (i:Nat) (s:List UInt8) (h:i < l.length):(cells Qdu l).set i (.pv (.str s)) = cells Qdu (l.set i s):=by
  rw [QtM,QtM,List.map_set]
theorem Qm9 (ps:List (List UInt8)) (wr:Int) (dead:Bool) (i:Nat) (hi:i < ps.length) (h6:(ps.getD i []).length = 256) (s:List UInt8) (n:Nat) (hn:n<=256) (hs:s.length = 256) :
    VCalls prog 161 [dvO 0 ps.length wr dead,.int .i64 i,.pv (.str s),.int .i64 n] [⟨9,true,cells Qdu ps⟩] (fun r h'=>r = dvO 0 ps.length wr dead/\h' = [⟨9,true,cells Qdu (ps.set i (s.take n ++ (ps.getD i []).drop n))⟩]):=by
  unfold dvO
  refine dd Tryz.func161 ?_
  have c1:=Qov i
  have hg:=Qpw ps i hi
  have hse:=fun s=>QyC ps i s hi
  generalize ps.getD i [] = q at *
  (unfold Tryz.f161; refine rn trivial ?_)
  have hlt:(i < ps.length) = True:=eq_true hi
  have F:=(And.intro @hg (And.intro @hse @hlt))
  refine rn F ?_
  repeat' (first
    | with_reducible exact ⟨⟩
    | refine vp F (c1) ?_
    | (refine Qd (id:=1) [0,1,2,3,4,5,6,7,8,9,10,11,12,13,14] [⟨[],[],15,[],[]⟩] (by kernel_rfl) (by kernel_rfl) ?_; refine rn F ?_))
  all_goals exact ⟨rfl,rfl⟩
def cpD (o:Nat) (v:Dv):List DV:=[.own (o + 2) 1 0 v.ps.length,.int .i64 v.wr,.own (o + 3) 1 0 0,.bool v.dead,.own (o + 4) 6 0 0]
def Qpn (v:Dv) (o:Nat):Qa:=[⟨82,true,cpD o v⟩,⟨82,true,cpD o v⟩,⟨9,true,cells Qdu v.ps⟩,⟨3,true,[]⟩,⟨254,true,[]⟩]
theorem Qzb (v:Dv) (hl:v.ps.length<=100000):VCalls prog 160 [.agg v.d] [] fun r h'=>r = .agg (cpD 0 v)/\h' = Qpn v 0:=by
  refine Qa4 (fn:=Tryz.f160) Tryz.func160 rfl (by kernel_rfl) (by simp [Tryz.f160]) ?_
  unfold cpD Qpn
  have hb:v.ps.length * 16<=140737488355328:=by omega
  (unfold Tryz.f160; refine rn trivial ?_)
  have F:=@hb
  (refine rn F ?_; try with_reducible exact ⟨⟩)
  all_goals first | rfl | exact ⟨rfl,rfl⟩
theorem QqJ {hp:Qa} {K:DV->Qa->Prop} (v:Dv) (hl:v.ps.length<=100000) (h:K (.agg (cpD hp.length v)) (hp ++ Qpn v hp.length)):VCalls prog 160 [.agg v.d] hp K:=by
  refine (VCalls.frame [] List.nodup_nil rfl rfl (Qzb v hl) rfl rfl).mono ?_
  rintro r h2 ⟨r0,h',⟨rfl,rfl⟩,-,rfl,rfl⟩
  rw [Qib]
  have e3:QcG (back [] hp.length) ⟨9,true,cells Qdu v.ps⟩ = ⟨9,true,cells Qdu v.ps⟩:=QaL (Qr _ _ _)
  simp only [Qpn,List.map_cons,List.map_nil,e3] at h |-
  exact h
@[go_sem] def dvD (a:Dv × Int):DV:=.tup [.agg a.1.d,.int .i64 a.2]
def dvQ (a:Dv × Int):Prop:=a.1.ps.length<=64
theorem QyN (v:Dv) (hl:v.ps.length<=100000) (pg:Int) (s:List UInt8) (hs0:s.length<=1000000) (n:Int):VCalls prog 130 [.agg v.d,.int .i64 pg,.pv (.str s),.int .i64 n] [] (QF dvD dvQ):=by
  refine dk Tryz.func130 ?_
  have c1:=Qgm v hl pg
  (unfold Tryz.f130; refine rn trivial ?_)
  refine Qk c1 rfl ?_
  rintro e he
  by_cases h0:e = 0
  rotate_left
  · skip
    have F:=@h0
    refine rn F ?_
    exact ⟨rfl,rfl,(Dv0,e),rfl,Nat.zero_le _⟩
  obtain ⟨q1,q2,q3⟩:=he h0
  subst h0
  have F:=trivial
  refine rn F ?_
  repeat' (first
    | with_reducible exact ⟨⟩
    | (refine sG F ?_ ?_<;>intro hZ)
    | (refine sB F ?_ ?_<;>intro hZ))
  all_goals first
    | exact ⟨rfl,rfl,(Dv0,_),rfl,Nat.zero_le _⟩
    | skip
  obtain ⟨i,rfl⟩:∃ i:Nat,pg = i:=⟨pg.toNat,by omega⟩
  obtain ⟨m,rfl⟩:∃ m:Nat,n = m:=⟨n.toNat,by omega⟩
  have hi:i < v.ps.length:=by omega
  refine QqJ v hl ?_
  unfold Qpn cpD
  refine rn trivial ?_
  refine VCalls.neA ?_
  have hpos:0 < v.ps.length:=by omega
  simp only [List.map_cons,List.map_nil,DV.ne,Qso hpos,Qnv,Qxo]
  refine QqH 4 (Qm9 v.ps v.wr v.dead i hi (q1.2.2 i hi) s m (by omega) (by omega)) rfl ⟨rfl,Qr _ _ _⟩ (Qr _ _ _) rfl rfl (r2:=dvO 4 v.ps.length v.wr v.dead) rfl ?_
  unfold dvO
  have hle:∀ x,(v.ps.set i x).length = v.ps.length:=fun x=>List.length_set
  have F:=@hle
  refine rn F ?_
  exact ⟨rfl,rfl,(⟨v.ps.set i (s.take m ++ (v.ps.getD i []).drop m),v.wr,v.dead⟩,0),rfl,by unfold dvQ; dsimp only; rw [hle]; exact q1.1.2⟩
theorem QrW (n:Int) (hn:n<=64):VCalls prog 88 [.int .i64 n] [] (QF (fun l:List (List UInt8)=>.pv (.sl (fz Qdu l))) fun l=>l.length<=64):=by
  refine dk Tryz.func88 ?_
  (unfold Tryz.f88; refine rn trivial ?_)
  refine VLoop.nilOwn 3 9 1 rfl ?_
  refine rn trivial ?_
  refine Qh (fun s:{s:Nat × List (List UInt8) // s.1<=64/\s.2.length = s.1}=>⟨16,0,[(4,.int .i64 s.1.1),(3,.own 0 1 0 s.1.2.length),(0,.int .i64 n)],[⟨9,true,cells Qdu s.1.2⟩]⟩) (fun s=>64 - s.1.1) ⟨(0,[]),by simp⟩ (gc [0]) ?_
  rintro ⟨⟨i,out⟩,hi,ho⟩
  dsimp only at hi ho |-
  have hb:(out.length + 1) * 16<=140737488355328:=by omega
  have hm:(((1:Nat):Int) * 256<=281474976710656) = True:=eq_true (by decide)
  have hcw:=fun (hp:Qa) (k o n:Nat)=>QeC (hp:=hp) (k:=k) (off:=o) (len:=n) QDo
  have hcv:∀ hp:Qa,Qyf hp 0 256 (some (cells Qe7 (List.replicate 256 0))) = some (.pv (.str (List.replicate 256 0)),hp):=fun hp=>Qde (by simp)
  have F:=(And.intro @hb (And.intro @hm (And.intro @hcw @hcv)))
  refine rn F ?_
  repeat' (first
    | with_reducible exact ⟨⟩
    | (refine sB F ?_ ?_<;>intro hZ))
  all_goals first
    | exact ⟨⟨(i + 1,out ++ [List.replicate 256 0]),by dsimp only; omega,by simp; omega⟩,by dsimp only; omega,by dsimp only; rw [List.length_append]; exact (gc [3])⟩
    | exact ⟨rfl,rfl,out,rfl,by omega⟩
    | skip
end
section
attribute [local go_sem] Qbb
theorem QrN (v:Dv) (hl:v.ps.length<=100000) (pg:Int) (s:List UInt8) (hs0:s.length<=1000000):VCalls prog 125 [.agg v.d,.int .i64 pg,.pv (.str s)] [] (QF dvD dvQ):=by
  refine dk Tryz.func125 ?_
  have c1:=Qgm v hl pg
  (unfold Tryz.f125; refine rn trivial ?_)
  refine Qk c1 rfl ?_
  rintro e he
  by_cases h0:e = 0
  rotate_left
  · skip
    have F:=@h0
    refine rn F ?_
    exact ⟨rfl,rfl,(Dv0,e),rfl,Nat.zero_le _⟩
  obtain ⟨q1,q2,q3⟩:=he h0
  subst h0
  have F:=trivial
  refine rn F ?_
  repeat' (first
    | with_reducible exact ⟨⟩
    | (refine sB F ?_ ?_<;>intro hZ))
  all_goals first
    | exact ⟨rfl,rfl,(Dv0,_),rfl,Nat.zero_le _⟩
    | skip
  obtain ⟨i,rfl⟩:∃ i:Nat,pg = i:=⟨pg.toNat,by omega⟩
  have hi:i < v.ps.length:=by omega
  have hwr:=q1.2.1
  refine QqJ v hl ?_
  unfold Qpn cpD
  have F:=trivial
  refine rn F ?_
  refine Qh (fun _:Unit=>⟨166,0,[(11,.int .i64 0),(10,.pv (.slc [])),(9,.ptr 4 0),(6,.ptr 1 0),(3,.ptr 0 0),(2,.pv (.str s)),(1,.int .i64 i)],[⟨82,true,v.d⟩,⟨82,true,[.pv (.slc []),.int .i64 0,.pv (.slc []),.bool false,.pv (.slc [])]⟩,⟨9,true,cells Qdu v.ps⟩,⟨3,true,[]⟩,⟨82,true,[.own 2 1 0 v.ps.length,.int .i64 (v.wr + 1),.own 3 1 0 0,.bool v.dead,.pv (.slc [])]⟩]⟩) (fun _=>0) () (gc [0,1,4,5,7]) ?_
  intro _
  have F:=trivial
  refine rn F ?_
  refine Qh (fun _:Unit=>⟨166,0,[(13,.int .i64 0),(12,.bool false),(10,.pv (.slc [])),(9,.ptr 3 0),(6,.ptr 0 0),(2,.pv (.str s)),(1,.int .i64 i)],[⟨82,true,[.pv (.slc []),.int .i64 0,.pv (.slc []),.bool false,.pv (.slc [])]⟩,⟨9,true,cells Qdu v.ps⟩,⟨3,true,[]⟩,⟨82,true,[.own 1 1 0 v.ps.length,.int .i64 (v.wr + 1),.own 2 1 0 0,.bool v.dead,.pv (.slc [])]⟩]⟩) (fun _=>0) () (gc [1,2,3,4]) ?_
  intro _
  have F:=trivial
  refine rn F ?_
  refine VCalls.wkA (VCalls.neA ?_)
  have hpos:0 < v.ps.length:=by omega
  refine rn trivial ?_
  simp only [List.map_cons,List.map_nil,DV.ne,Qso hpos,Qnv,Qxo,DV.wk,DV.wk.go,PV.wk]
  refine QqH 1 (Qm9 v.ps (v.wr + 1) v.dead i hi (q1.2.2 i hi) s 256 (by omega) (by omega)) rfl ⟨rfl,Qr _ _ _⟩ (Qr _ _ _) rfl rfl (r2:=dvO 1 v.ps.length (v.wr + 1) v.dead) rfl ?_
  unfold dvO
  have hle:∀ x,(v.ps.set i x).length = v.ps.length:=fun x=>List.length_set
  have F:=@hle
  refine rn F ?_
  have hlL:=hle (s.take 256 ++ (v.ps.getD i []).drop 256)
  generalize v.ps.set i (s.take 256 ++ (v.ps.getD i []).drop 256) = L at *
  refine Qh (fun _:Unit=>⟨166,0,[(14,.int .i64 0),(10,.pv (.slc [])),(9,.ptr 2 0),(6,.ptr 0 0)],[⟨82,true,[.pv (.slc []),.int .i64 0,.pv (.slc []),.bool false,.pv (.slc [])]⟩,⟨9,true,cells Qdu L⟩,⟨82,true,[.own 1 1 0 v.ps.length,.int .i64 (v.wr + 1),.pv (.sl []),.bool v.dead,.pv (.sl [])]⟩]⟩) (fun _=>0) () (gc [0,1,3]) ?_
  intro _
  have F:=@hlL
  refine rn F ?_
  exact ⟨rfl,rfl,(⟨L,v.wr + 1,v.dead⟩,0),rfl,by unfold dvQ; have:=q1.1.2; dsimp only; omega⟩
end
section
attribute [local go_sem] Qbb
theorem QiE (n:Nat) (hn:n<=1000):VCalls prog 157 [.int .i64 n] [] (Ret (.pv (.str (List.replicate n 0)))):=by
  refine dd Tryz.func157 ?_
  have hm:(((1:Nat):Int) * (n:Int)<=281474976710656) = True:=eq_true (by omega)
  have hm2:((n:Int) * ((1:Nat):Int)<=281474976710656) = True:=eq_true (by omega)
  have hcw:=fun (hp:Qa) (k o n:Nat)=>QeC (hp:=hp) (k:=k) (off:=o) (len:=n) QDo
  have hcv:∀ hp:Qa,Qyf hp 0 n (some (cells Qe7 (List.replicate n 0))) = some (.pv (.str (List.replicate n 0)),hp):=fun hp=>Qde (by simp)
  have hm3:((0:Int)<=(n:Int)/\(n:Int)<=(n:Int)/\(n:Int)<=9223372036854775807) = True:=eq_true ⟨by omega,by omega,by omega⟩
  (unfold Tryz.f157; refine rn (And.intro @hm (And.intro @hm2 (And.intro @hm3 (And.intro @hcw @hcv)))) ?_; try with_reducible exact ⟨⟩)
theorem QvA:VCalls prog 253 [] [] (Ret (.pv (.str (List.replicate 256 0)))):=by
  refine dd Tryz.func253 ?_
  have c1:=QiE 256 (by omega)
  (unfold Tryz.f253; refine rn trivial ?_)
  refine rn F ?_
  repeat' (first
    | with_reducible exact ⟨⟩
    | refine vp F (c1) ?_)
theorem QAv (x:Pg) (i:Nat) (h:i < 16):x.d[2 + i * 2 + 1]? = some (.pv (.str (x.cel i).data)):=by
  have:i = 0\/i = 1\/i = 2\/i = 3\/i = 4\/i = 5\/i = 6\/i = 7\/i = 8\/i = 9\/i = 10\/i = 11\/i = 12\/i = 13\/i = 14\/i = 15:=by omega
  rcases this with h | h | h | h | h | h | h | h | h | h | h | h | h | h | h | h<;>subst h<;>rfl
theorem Qzu {p:Pg} (h:QaP p = 0) (i:Nat) (hi:i < 16):(p.cel i).data.length<=12:=by
  have:=QtK h
  unfold Pg.okB Pg.celB at this
  simp only [Bool.and_eq_true,List.all_eq_true,List.mem_range] at this
  have:=this.2 i hi
  unfold Pg.celC Ce.okB at this
  simp only [Bool.and_eq_true,decide_eq_true_eq] at this
  exact this.1.1
theorem Ql6 (p:Pg):VCalls prog 124 [.agg p.d] [] (QF siD fun a=>a.1.length<=256):=by
  refine dd Tryz.func124 ?_
  have c1:=Qdn p
  have hcel:=Qzu (p:=p)
  by_cases hk:QaP p = 0
  rotate_left
  · generalize QaP p = k at *
    (unfold Tryz.f124; refine rn trivial ?_)
    have F:=@hk
    refine rn F ?_
    repeat' (first
      | with_reducible exact ⟨⟩
      | refine vp F (c1) ?_)
    exact ⟨rfl,rfl,([],k),rfl,Nat.zero_le _⟩
  rw [hk] at c1
  have hcel:=hcel hk
  have c2:=Qb7 [] (by simp) p.lsn 8 (by omega) (by omega)
  have c3:=Qb7 (Qao [] p.lsn 8) (by rw [Qq]; simp) p.id 4 (by omega) (by omega)
  have hl0:(Qao (Qao [] p.lsn 8) p.id 4).length = 12:=by rw [Qq,Qq]; rfl
  (unfold Tryz.f124; refine rn trivial ?_)
  have F:=trivial
  refine rn F ?_
  repeat' (first
    | with_reducible exact ⟨⟩
    | refine vp F (c1) ?_
    | refine vp F (c2) ?_
    | refine vp F (c3) ?_)
  generalize Qao (Qao [] p.lsn 8) p.id 4 = s0 at *
  refine Qh (fun s:{s:Nat × List UInt8 // s.1<=16/\s.2.length = 12 + 13 * s.1}=>⟨69,0,[(6,.int .i64 s.1.1),(5,.pv (.str s.1.2)),(1,.ptr 0 0)],[⟨178,true,p.d⟩]⟩) (fun s=>16 - s.1.1) ⟨(0,s0),by simp; exact hl0⟩ (gc [0]) ?_
  rintro ⟨⟨i,t⟩,hi,ht⟩
  dsimp only at hi ht |-
  have hg:=fun h:i < 16=>QnP p i h
  have hg0:=fun h:i < 16=>QtO p i h
  have hg1:=fun h:i < 16=>QAv p i h
  have hdl:=fun h:i < 16=>hcel i h
  generalize p.cel i = c at *
  have d1:=fun n=>Qb7 t (by omega) n 1 (by omega) (by omega)
  have hpl:=fun n=>Qq t n 1
  by_cases hi16:i < 16
  · have hdl:=hdl hi16
    have d2:=QiE (12 - c.data.length) (by omega)
    rw [show ((12 - c.data.length:Nat):Int) = 12 - (c.data.length:Int) by omega] at d2
    have hcd:(c.data ++ List.replicate (12 - c.data.length) (0:UInt8)).length = 12:=by rw [List.length_append,List.length_replicate]; omega
    have hadd:=fun n=>QcQ (a:=Qao t n 1) (b:=c.data ++ List.replicate (12 - c.data.length) (0:UInt8)) (by rw [hpl,hcd]; omega)
    have F:=(And.intro @hg (And.intro @hg0 (And.intro @hg1 @hadd)))
    refine rn F ?_
    repeat' (first
      | with_reducible exact ⟨⟩
      | (refine sB F ?_ ?_<;>intro hZ)
      | refine vp F (d1 _) ?_
      | refine vp F (d2) ?_
      | (refine Qd (id:=13) [0,1,2,3,4,5,6,7,8,9,10,11,12] [⟨[],[],13,[0,1,2,3,4,5,6,7,8,9,10,11],[14,15]⟩,⟨[],[],16,[],[]⟩] (by kernel_rfl) (by kernel_rfl) ?_; refine rn F ?_))
    · exact ⟨⟨(i + 1,Qao t c.data.length 1 ++ (c.data ++ List.replicate (12 - c.data.length) 0)),by dsimp only; omega,by dsimp only; rw [List.length_append,List.length_append,List.length_replicate,hpl]; omega⟩,by dsimp only; omega,(gc [0])⟩
    · exact ⟨⟨(i + 1,Qao t 255 1 ++ (c.data ++ List.replicate (12 - c.data.length) 0)),by dsimp only; omega,by dsimp only; rw [List.length_append,List.length_append,List.length_replicate,hpl]; omega⟩,by dsimp only; omega,(gc [0])⟩
  · have hi:i = 16:=by omega
    subst hi
    have d2:=QiE (244 - t.length) (by omega)
    rw [show ((244 - t.length:Nat):Int) = 244 - (t.length:Int) by omega] at d2
    have hle:(t ++ List.replicate (244 - t.length) (0:UInt8)).length = 244:=by rw [List.length_append,List.length_replicate]; omega
    obtain ⟨u,hu⟩:∃ u,t ++ List.replicate (244 - t.length) (0:UInt8) = u:=⟨_,rfl⟩
    rw [hu] at hle
    have d3:=Qm6 u (by omega)
    have d4:=fun n=>Qb7 u (by omega) n 4 (by omega) (by omega)
    have hu4:=fun n=>Qq u n 4
    have d5:=fun n m=>Qb7 (Qao u n 4) (by rw [hu4]; omega) m 8 (by omega) (by omega)
    have F:=@hu
    refine rn F ?_
    repeat' (first
      | with_reducible exact ⟨⟩
      | refine vp F (d2) ?_
      | refine vp F (d3) ?_
      | refine vp F (d4 _) ?_
      | refine vp F (d5 _ _) ?_)
    exact ⟨rfl,rfl,(Qao (Qao u _ 4) _ 8,0),rfl,by dsimp only; rw [Qq,hu4]; omega⟩
end
section
attribute [local go_sem] Qbb
@[go_sem] def piD (a:Pg × Int):DV:=.tup [.agg a.1.d,.int .i64 a.2]
theorem Qve (n:Int):VCalls prog 229 [.int .i64 n] [] (Ret (.agg (Pg.d ⟨n,0,fun _=>Ce0⟩))):=by
  refine dd Tryz.func229 ?_
  (unfold Tryz.f229; refine rn trivial ?_)
  rfl
theorem QyZ (s:List UInt8) (hs:s.length<=1000000):VCalls prog 228 [.pv (.str s)] [] (QF piD fun _=>True):=by
  refine dd Tryz.func228 ?_
  have c1:=QvA
  (unfold Tryz.f228; refine rn trivial ?_)
  by_cases hl:s.length = 256
  rotate_left
  · have hl':¬ (s.length:Int) = 256:=by omega
    have F:=@hl'
    refine rn F ?_
    exact ⟨rfl,rfl,(Pg0,2),rfl,trivial⟩
  have c2:=fun (a k:Nat) (h:1<=k/\k<=8) (hh:a + k<=s.length)=>QhR s (by omega) a k h hh
  have g1:=c2 244 4 (by omega) (by omega)
  have g2:=c2 0 8 (by omega) (by omega)
  have g3:=c2 8 4 (by omega) (by omega)
  have c3:=fun u h=>Qm6 u h
  have c4:=Ql6
  have F:=@hl
  refine rn F ?_
  repeat' (first
    | with_reducible exact ⟨⟩
    | (refine sB F ?_ ?_<;>intro hZ)
    | refine vp F (c1) ?_
    | refine vp F (g1) ?_
    | refine vp F (g2) ?_
    | refine vp F (g3) ?_
    | (refine vp F (c3 _ (by simp; omega)) ?_)
    | (refine Qd (id:=5) [0,1,2,3,4] [⟨[],[],5,[0,1,2,3],[]⟩] (by kernel_rfl) (by kernel_rfl) ?_; refine rn F ?_))
  all_goals first
    | exact ⟨rfl,rfl,(Pg0,_),rfl,trivial⟩
    | skip
  refine Qh (fun r:{r:Nat × Pg // r.1<=16}=>⟨95,0,[(7,.int .i64 r.1.1),(6,.ptr 1 0),(2,.ptr 0 0),(0,.pv (.str s))],[⟨178,true,Pg0.d⟩,⟨178,true,r.1.2.d⟩]⟩) (fun r=>16 - r.1.1) ⟨(0,⟨IntKind.i64.wrap (Qly s 8 4),IntKind.i64.wrap (Qly s 0 8),fun _=>Ce0⟩),by simp⟩ (gc [0,1]) ?_
  rintro ⟨⟨i,p⟩,hi⟩
  dsimp only at hi |-
  have hgs:i < 16->s[12 + i * 13]? = some (s.getD (12 + i * 13) 0):=fun h=>by rw [List.getD_eq_getElem?_getD,List.getElem?_eq_getElem (by omega)]; rfl
  have hix:(12 + (i:Int) * 13).toNat = 12 + i * 13:=by omega
  have hce:=fun (h:i < 16) b d=>Qja p i h ⟨b,d⟩
  generalize hq:s.getD (12 + i * 13) 0 = q at *
  have hqb:=q.toNat_lt
  have c5:=c4 p
  have F:=(And.intro @hgs (And.intro @hix (And.intro @hce @hl)))
  refine rn F ?_
  repeat' (first
    | with_reducible exact ⟨⟩
    | (refine sG F ?_ ?_<;>intro hZ)
    | (refine sB F ?_ ?_<;>intro hZ)
    | (refine Qk (c5) rfl ?_; rintro ⟨t,e⟩ -; refine rn F ?_))
  all_goals first
    | exact ⟨rfl,rfl,(Pg0,_),rfl,trivial⟩
    | exact ⟨rfl,rfl,(p,0),rfl,trivial⟩
    | exact ⟨⟨(i + 1,p),by dsimp only; omega⟩,by dsimp only; omega,(gc [0,1])⟩
    | exact ⟨⟨(i + 1,p.setc i ⟨true,List.drop (12 + (i:Int) * 13 + 1).toNat (List.take (12 + (i:Int) * 13 + 1 + q.toNat).toNat s)⟩),by dsimp only; omega⟩,by dsimp only; omega,(gc [0,1])⟩
    | skip
theorem Qvp (s:List UInt8) (hs:s.length<=1000000) (n:Int):VCalls prog 182 [.pv (.str s),.int .i64 n] [] (QF piD fun a=>a.2 = 0->a.1.id = n):=by
  refine dd Tryz.func182 ?_
  have c1:=QyZ s hs
  have c2:=Qve n
  (unfold Tryz.f182; refine rn trivial ?_)
  refine rn F ?_
  repeat' (first
    | with_reducible exact ⟨⟩
    | (refine sG F ?_ ?_<;>intro hZ)
    | (refine sB F ?_ ?_<;>intro hZ)
    | (refine Qk (c1) rfl ?_; rintro ⟨p,e⟩ -; refine rn F ?_)
    | refine vp F (c2) ?_)
  all_goals first
    | exact ⟨rfl,rfl,(Pg0,_),rfl,fun h=>by simp at h⟩
    | exact ⟨rfl,rfl,(⟨n,0,fun _=>Ce0⟩,0),rfl,fun _=>rfl⟩
    | exact ⟨rfl,rfl,(p,e),rfl,fun h=>by dsimp only at h |-; omega⟩
    | skip
theorem Qvk (l:List Rw) (hl:l.length<=64) (n hd:Int) (s:List UInt8) (hs:s.length<=1000000):VCalls prog 138 [.agg [.pv (.sl (fz Qb1 l))],.int .i64 n,.int .i64 hd,.pv (.str s)] [] (QF piD fun a=>a.2 = 0->a.1.id = n):=by
  refine dd Tryz.func138 ?_
  have c1:=Qa7 l (by omega)
  have c2:=Qvp s hs n
  have hg:=fun h:n.toNat < l.length=>QkZ l n.toNat h
  generalize ixB l = b at *
  (unfold Tryz.f138; refine rn trivial ?_)
  have F:=@hg
  refine rn F ?_
  repeat' (first
    | with_reducible exact ⟨⟩
    | (refine sG F ?_ ?_<;>intro hZ)
    | (refine sB F ?_ ?_<;>intro hZ)
    | refine vp F (c1) ?_
    | (refine Qk (c2) rfl ?_; rintro ⟨p,e⟩ hp; refine rn F ?_)
    | (refine Qd (id:=8) [0,1,2,3,4,5,6,7,8,9,10,11,12,13,14] [⟨[],[],15,[0,1,2,3,5,6,7,8,9,10,11,12,13],[]⟩] (by kernel_rfl) (by kernel_rfl) ?_; refine rn F ?_)
    | (refine Qd (id:=10) [0,1,2,3,4,5,6,7,8] [⟨[],[],9,[0,1,2,3,4,5,6,7],[]⟩] (by kernel_rfl) (by kernel_rfl) ?_; refine rn F ?_))
  all_goals first
    | exact ⟨rfl,rfl,(Pg0,e),rfl,fun h=>absurd h (by assumption)⟩
    | (focus (refine ⟨rfl,rfl,(Pg0,_),rfl,fun h=>?_⟩; simp at h; done))
    | exact ⟨rfl,rfl,(p,0),rfl,fun _=>hp (by dsimp only; omega)⟩
    | skip
end
section
attribute [local go_sem] Qbb
theorem QDZ (e:E) (l:List E):(.pv (.lit (.int .i64 e.lsn)) :: .pv (.lit (.int .i64 e.kind)) :: .pv (.lit (.int .i64 e.tx)) :: .pv (.lit (.int .i64 e.ptx)) :: .pv (.lit (.int .i64 e.ppg)) :: .pv (.lit (.int .i64 e.ref)) :: .pv (.lit (.int .i64 e.c.pg)) :: .pv (.lit (.int .i64 e.c.sl)) :: .pv (.lit (.bool e.c.b.set)) :: .pv (.str e.c.b.data) :: .pv (.lit (.bool e.c.a.set)) :: .pv (.str e.c.a.data) :: .pv (.str e.blob) :: cells encE l:List DV) = cells encE (e :: l):=rfl
theorem Qvr (e:E) (l:List E) (hl:l.length<=100000):VCalls prog 50 [.agg e.d,.pv (.sl (fz encE l))] [] (Ret (.pv (.sl (fz encE (e :: l))))):=by
  refine dk Tryz.func50 ?_
  have hc:=QDZ e l
  have hb:(1 + l.length) * 128<=140737488355328:=by omega
  have hlen:(e :: l).length = 1 + l.length:=by simp; omega
  (unfold Tryz.f50; refine rn (And.intro @hc (And.intro @hb @hlen)) ?_; try with_reducible exact ⟨⟩)
@[go_sem] def esD (a:List E × Int):DV:=.tup [.pv (.sl (fz encE a.1)),.int .i64 a.2]
theorem QsV {x:Lg} {n:Int} (h:(Qfk x n).2 = 0):lgB x = true/\x.f<=n/\n<=x.end_/\(Qfk x n).1.lsn = n/\(Qfk x n).1.okB = true:=by
  unfold Qfk at h |-
  split at h
  · simp at h
  rename_i q1
  split at h
  · simp at h
  rename_i q2
  rw [if_neg q1,if_neg q2]
  have hv:lgB x = true:=by simpa using q1
  have hv2:=hv
  unfold lgB at hv2
  simp only [Bool.and_eq_true,List.all_eq_true,List.mem_range] at hv2
  have hd:=hv2.1
  simp only [decide_eq_true_eq,Lg.hd] at hd
  have:=hv2.2 (n - x.f).toNat (by simp only [Lg.end_] at q2; omega)
  unfold lgC at this
  simp only [Bool.and_eq_true,decide_eq_true_eq] at this
  dsimp only
  exact ⟨hv,by omega,by omega,by omega,this.2⟩
theorem Qzs {e:E} (h:e.okB = true):0<=e.ppg/\e.ppg < e.lsn:=by
  unfold E.okB bef at h
  simp only [Bool.and_eq_true,decide_eq_true_eq] at h
  omega
structure Ch7 (x:Lg) where
  at_:Int
  out:List E
  ok:out = []\/at_ + out.length<=x.f + x.es.length
  nn:0<=at_
  le:out.length<=4097
theorem Qvz (x:Lg) (hx:x.es.length<=4096) (pg last above:Int):VCalls prog 25 [.agg x.c,.int .i64 pg,.int .i64 last,.int .i64 above] [] (QF esD fun a=>a.1.length<=4097):=by
  refine dk Tryz.func25 ?_
  have c1:=Qad x (by omega)
  have c2:=QhS x (by omega)
  have hok:=@QsV x
  (unfold Tryz.f25; refine rn trivial ?_)
  cases hv:lgB x
  · rw [hv] at c1
    refine rn F ?_
    repeat' (first
      | with_reducible exact ⟨⟩
      | refine vp F (c1) ?_)
    exact ⟨rfl,rfl,([],26),rfl,Nat.zero_le _⟩
  rw [hv] at c1
  have hd:=QaC hv
  simp only [Lg.hd] at hd
  refine rn F ?_
  repeat' (first
    | with_reducible exact ⟨⟩
    | (refine sG F ?_ ?_<;>intro hZ)
    | (refine sB F ?_ ?_<;>intro hZ)
    | refine vp F (c1) ?_)
  all_goals first
    | exact ⟨rfl,rfl,([],1),rfl,Nat.zero_le _⟩
    | skip
  refine VLoop.wkS ?_
  refine rn trivial ?_
  refine Qh (fun s:Ch7 x=>⟨62,0,[(11,.int .i64 s.at_),(10,.pv (.sl (fz encE s.out))),(4,.ptr 0 0),(3,.int .i64 above),(1,.int .i64 pg)],[⟨25,true,x.c⟩]⟩) (fun s=>s.at_.toNat) ⟨last,[],.inl rfl,by omega,Nat.zero_le _⟩ (gc [0]) ?_
  rintro ⟨at_,out,ok,nn,le⟩
  dsimp only
  have c3:=c2 at_
  have hok:=hok (n:=at_)
  generalize Qfk x at_ = g at *
  have c4:=Qa9 g.1
  have c5:=Qvr g.1 out (by omega)
  refine rn F ?_
  repeat' (first
    | with_reducible exact ⟨⟩
    | (refine sG F ?_ ?_<;>intro hZ)
    | (refine sB F ?_ ?_<;>intro hZ)
    | refine vp F (c3) ?_
    | refine vp F (c4) ?_
    | refine vp F (c5) ?_
    | (refine Qd (id:=13) [0,1,3,4] [⟨[],[],2,[3,4],[]⟩,⟨[],[],5,[3,4],[]⟩,⟨[],[],6,[],[]⟩] (by kernel_rfl) (by kernel_rfl) ?_; refine rn F ?_))
  all_goals first
    | exact ⟨rfl,rfl,([],_),rfl,Nat.zero_le _⟩
    | exact ⟨rfl,rfl,(out,0),rfl,le⟩
    | skip
  obtain ⟨k1,k2,k3,k4,k5⟩:=hok (by omega)
  have hp:=Qzs k5
  simp only [Lg.end_] at k3
  have ho:at_ + out.length<=x.f + x.es.length:=by
    rcases ok with rfl | ok
    · simp; omega
    · exact ok
  exact ⟨⟨g.1.ppg,g.1 :: out,.inr (by simp only [List.length_cons]; omega),hp.1,by simp only [List.length_cons]; omega⟩,by dsimp only; omega,(gc [0])⟩
theorem Qxj (c:Ch):VCalls prog 64 [.agg c.d] [] (Ret (.agg (Ch.d ⟨c.pg,c.sl,c.a,c.b⟩))):=by
  refine dd Tryz.func64 ?_
  (unfold Tryz.f64; refine rn trivial ?_; try with_reducible exact ⟨⟩)
theorem Qzt {c:Ch} (h:c.okB = true):0<=c.sl/\c.sl < 16:=by
  unfold Ch.okB at h
  simp only [Bool.and_eq_true,decide_eq_true_eq] at h
  omega
theorem QCW (a c:Bool) (b d:List UInt8):QT [.pv (.lit (.bool a)),.pv (.str b)] [.pv (.lit (.bool c)),.pv (.str d)] [(0,0),(1,2)] = some (a == c && b == d):=by simp [QT,QaO]
theorem Qke (p:Pg) (c:Ch):VCalls prog 187 [.agg p.d,.agg c.d] [] (QF piD fun a=>a.2 = 0->a.1.id = p.id):=by
  refine dd Tryz.func187 ?_
  have c1:=QrU c
  have hs:=Qzt (c:=c)
  (unfold Tryz.f187; refine rn trivial ?_)
  cases hv:c.okB
  · rw [hv] at c1
    refine rn F ?_
    repeat' (first
      | with_reducible exact ⟨⟩
      | refine vp F (c1) ?_)
    exact ⟨rfl,rfl,(Pg0,22),rfl,fun h=>by simp at h⟩
  rw [hv] at c1
  obtain ⟨s1,s2⟩:=hs hv
  obtain ⟨i,hi⟩:∃ i:Nat,c.sl = i:=⟨c.sl.toNat,by omega⟩
  have hi16:i < 16:=by omega
  have hg:=QnP p i hi16
  have hce:=Qja p i hi16 c.a
  have F:=(And.intro @hi (And.intro @hg (And.intro @hce @QCW)))
  refine rn F ?_
  repeat' (first
    | with_reducible exact ⟨⟩
    | (refine sB F ?_ ?_<;>intro hZ)
    | refine vl F (c1) ?_
    | (refine Qd (id:=5) [0,1,2,3,4,5,6,7] [⟨[],[],8,[0,1,2,3,4,5,6],[]⟩] (by kernel_rfl) (by kernel_rfl) ?_; refine rn F ?_))
  all_goals first
    | exact ⟨rfl,rfl,(p.setc i c.a,0),rfl,fun _=>rfl⟩
    | (focus (refine ⟨rfl,rfl,(Pg0,_),rfl,fun h=>?_⟩; simp at h; done))
    | skip
theorem QvC (p:Pg) (e:E):VCalls prog 231 [.agg p.d,.agg e.d] [] (QF piD fun a=>a.2 = 0->a.1.id = p.id):=by
  refine dd Tryz.func231 ?_
  have c1:=Qcq e
  have c2:=Qa9 e
  have c3:=Qdn p
  have c4:=Qke p e.c
  generalize e.okB = b at *
  generalize QaP p = k at *
  (unfold Tryz.f231; refine rn trivial ?_)
  refine rn F ?_
  repeat' (first
    | with_reducible exact ⟨⟩
    | (refine sG F ?_ ?_<;>intro hZ)
    | (refine sB F ?_ ?_<;>intro hZ)
    | refine vp F (c1) ?_
    | refine vp F (c2) ?_
    | refine vp F (c3) ?_
    | (refine Qk (c4) rfl ?_; rintro ⟨q,er⟩ hq; refine rn F ?_))
  all_goals first
    | exact ⟨rfl,rfl,(⟨q.id,e.lsn,q.cel⟩,0),rfl,fun _=>hq (by dsimp only; omega)⟩
    | exact ⟨rfl,rfl,(Pg0,er),rfl,fun h=>absurd h (by assumption)⟩
    | exact ⟨rfl,rfl,(Pg0,k),rfl,fun h=>absurd h (by assumption)⟩
    | (focus (refine ⟨rfl,rfl,(Pg0,_),rfl,fun h=>?_⟩; simp at h; done))
    | skip
theorem Qry (x:Lg) (hx:x.es.length<=4096) (p:Pg) (n:Int):VCalls prog 230 [.agg x.c,.agg p.d,.int .i64 n] [] (QF esD fun a=>a.1.length<=4097):=by
  refine dk Tryz.func230 ?_
  have c1:=Qad x (by omega)
  have c2:=Qdn p
  have c3:=Qvz x hx
  generalize lgB x = b at *
  generalize QaP p = k at *
  (unfold Tryz.f230; refine rn trivial ?_)
  refine rn F ?_
  repeat' (first
    | with_reducible exact ⟨⟩
    | (refine sB F ?_ ?_<;>intro hZ)
    | refine vp F (c1) ?_
    | refine vp F (c2) ?_
    | (refine Qk (c3 _ _ _) rfl ?_; rintro ⟨l,e⟩ hl; refine rn F ?_))
  all_goals first
    | exact ⟨rfl,rfl,([],_),rfl,Nat.zero_le _⟩
    | exact ⟨rfl,rfl,(l,e),rfl,hl⟩
    | skip
@[go_sem] def QEW (a:Pg × Int × Int):DV:=.tup [.agg a.1.d,.int .i64 a.2.1,.int .i64 a.2.2]
theorem Qu9 (x:Lg) (hx:x.es.length<=4096) (p:Pg) (n:Int):VCalls prog 183 [.agg x.c,.agg p.d,.int .i64 n] [] (QF QEW fun a=>a.2.2 = 0->a.1.id = p.id):=by
  refine dk Tryz.func183 ?_
  have c1:=Qry x hx p n
  (unfold Tryz.f183; refine rn trivial ?_)
  refine rn F ?_
  repeat' (first
    | with_reducible exact ⟨⟩
    | (refine sB F ?_ ?_<;>intro hZ)
    | (refine Qk (c1) rfl ?_; rintro ⟨l,e⟩ hl; refine rn F ?_))
  all_goals first
    | exact ⟨rfl,rfl,(Pg0,0,e),rfl,fun h=>absurd h (by assumption)⟩
    | skip
  dsimp only at hl
  refine Qh (fun s:{s:Nat × Pg // s.1<=l.length/\s.2.id = p.id}=>⟨45,0,[(11,.int .i64 s.1.1),(9,.pv (.sl (fz encE l))),(6,.ptr 1 0),(4,.ptr 0 0)],[⟨178,true,s.1.2.d⟩,⟨178,true,Pg0.d⟩]⟩) (fun s=>l.length - s.1.1) ⟨(0,p),Nat.zero_le _,rfl⟩ (gc [1,2]) ?_
  rintro ⟨⟨i,q⟩,hi,hq⟩
  dsimp only at hi hq |-
  have hg:=fun h:i < l.length=>QdB l i h
  have c2:=QvC q (l.getD i E0)
  have F:=@hg
  refine rn F ?_
  repeat' (first
    | with_reducible exact ⟨⟩
    | (refine sB F ?_ ?_<;>intro hZ)
    | (refine Qk (c2) rfl ?_; rintro ⟨q2,e2⟩ hq2; refine rn F ?_)
    | (refine Qd (id:=7) [0,1,2,3,4] [⟨[],[],5,[1,2,3],[6,7,8]⟩,⟨[],[],9,[8],[]⟩,⟨[],[],10,[],[]⟩] (by kernel_rfl) (by kernel_rfl) ?_; refine rn F ?_))
  all_goals first
    | exact ⟨rfl,rfl,(Pg0,0,e2),rfl,fun h=>absurd h (by assumption)⟩
    | exact ⟨rfl,rfl,(q,l.length,0),rfl,fun _=>hq⟩
    | exact ⟨⟨(i + 1,q2),by dsimp only; omega,(hq2 (by dsimp only; omega)).trans hq⟩,by dsimp only; omega,(gc [0,1])⟩
    | skip
theorem QyS (x:Lg) (hx:x.es.length<=4096) (p:Pg) (n:Int):VCalls prog 139 [.agg x.c,.agg p.d,.int .i64 n] [] (QF piD fun a=>a.2 = 0->a.1.id = p.id):=by
  refine dd Tryz.func139 ?_
  have c1:=Qu9 x hx p n
  (unfold Tryz.f139; refine rn trivial ?_)
  refine rn F ?_
  repeat' (first
    | with_reducible exact ⟨⟩
    | (refine Qk (c1) rfl ?_; rintro ⟨q,m,e⟩ hq; refine rn F ?_))
  exact ⟨rfl,rfl,(q,e),rfl,hq⟩
end
section
attribute [local go_sem] Ce.d Ch.d E.d Lg.c QT QaO
def QlT (f:Int) (es:List E) (i:Nat):Bool:=
  if (es.getD i E0).ref < f then !Qjm es i (es.getD i E0).tx (es.getD i E0).c.pg (es.getD i E0).c.sl (es.getD i E0).ref && !QjS es i (es.getD i E0).ref
  else decide ((es.getD ((es.getD i E0).ref - f).toNat E0).kind = 1) && (decide ((es.getD ((es.getD i E0).ref - f).toNat E0).tx = (es.getD i E0).tx) && (eqC (es.getD i E0).c (es.getD ((es.getD i E0).ref - f).toNat E0).c.inv && (!QjS es i (es.getD i E0).ref && !Qjm es i (es.getD i E0).tx (es.getD i E0).c.pg (es.getD i E0).c.sl (es.getD i E0).ref)))
theorem QyH (x:Lg) (i:Nat) (hi:i < x.es.length) (hl:x.es.length<=1000000) (hf:0<=x.f/\x.f<=1099511627776) (hr:(x.es.getD i E0).ref < x.f + i):VCalls prog 39 [.agg x.c,.int .i64 i] [] (Ret (.bool (QlT x.f x.es i))):=by
  refine dd Tryz.func39 ?_
  have hgi:=QdB x.es i hi
  have eS:QlT x.f x.es i = if (x.es.getD i E0).ref < x.f then _ else _:=rfl
  obtain ⟨y,hy⟩:∃ y,x.es.getD i E0 = y:=⟨_,rfl⟩
  rw [hy] at hgi hr eS
  have hpe:=QhP x i y.tx y.c.pg y.c.sl y.ref (by omega) hl
  have hun:=Qkc x i y.ref (by omega) hl
  unfold Lg.c at hpe hun
  generalize Qjm x.es i y.tx y.c.pg y.c.sl y.ref = pnd at *
  generalize QjS x.es i y.ref = un at *
  by_cases hlt:y.ref < x.f
  · rw [if_pos hlt] at eS
    (unfold Tryz.f39; refine rn @hgi ?_)
    have F:=(And.intro @hgi @hlt)
    refine rn F ?_
    repeat' (first
      | with_reducible exact ⟨⟩
      | (refine sG F ?_ ?_<;>intro hZ)
      | refine vp F (hpe) ?_
      | refine vp F (hun) ?_)
    all_goals exact congrArg DV.bool (by rw [eS]; simp [*])
  · rw [if_neg hlt] at eS
    have hk:(y.ref - x.f).toNat < x.es.length:=by omega
    have hgk:=QdB x.es (y.ref - x.f).toNat hk
    obtain ⟨z,hz⟩:∃ z,x.es.getD (y.ref - x.f).toNat E0 = z:=⟨_,rfl⟩
    rw [hz] at hgk eS
    have hinv:VCalls prog 64 [.agg z.c.d] [] (Ret (.agg z.c.inv.d)):=Qxj z.c
    unfold Ch.d Ch.inv at hinv
    have h0:0<=y.ref - x.f:=by omega
    have hQ:eqC y.c z.c.inv = true ↔ y.c.pg = z.c.pg/\y.c.sl = z.c.sl/\y.c.b.set = z.c.a.set/\y.c.b.data = z.c.a.data/\y.c.a.set = z.c.b.set/\y.c.a.data = z.c.b.data:=by unfold eqC Ch.inv; simp
    (unfold Tryz.f39; refine rn @hgi ?_)
    have F:=(And.intro @hgi (And.intro @hlt (And.intro @hgk @h0)))
    refine rn F ?_
    repeat' (first
      | with_reducible exact ⟨⟩
      | (refine sG F ?_ ?_<;>intro hZ)
      | refine vp F (hpe) ?_
      | refine vp F (hun) ?_
      | refine vp F (hinv) ?_
      | (refine QbT (id:=5) [[],[0],[0,1],[0,1,2],[0,1,2,3],[0,1,2,3,4],[0,1,2,3],[0,1,2,3,6],[0,1,2,3,4,5,6,7],[0,1,2,3,4,5,6,7,8],[0,1,2,3,4,5,6,7,8,9],[0,1,2,3,4,5,6,7,8,9,10],[0,1,2,3,4,5,6,7,8,9,10,11],[0,1,2,3,4,5,6,7,8,9,10],[0,1,2,3,4,5,6,7,8,9,10,13],[0,1,2,3,4,5,6,7,8,9,10,13,14],[0,1,2,3,4,5,6,7,8,9,10,11,12,13,14,15],[0,1,2,3,4,5,6,7,8,9,10,11,12,13,14,15,16],[0,1,2,3,4,5,6,7,8,9,10,11,12,13,14,15,16,17],[0,1,2,3,4,5,6,7,8,9,10,11,12,13,14,15,16,17,18],[0,1,2,3,4,5,6,7,8,9,10,11,12,13,14,15,16,17,18],[0,1,2,3,4,5,6,7,8,9,10,11,12,13,14,15,16,17,18],[0,1,2,3,4,5,6,7,8,9,10,11,12,13,14,15,16,17,18,21],[0,1,2,3,4,5,6,7,8,9,10,11,12,13,14,15,16,17,18,19,20,21,22],[0,1,2,3,4,5,6,7,8,9,10,11,12,13,14,15,16,17,18,19,20,21,22,23],[0,1,2,3,4,5,6,7,8,9,10,11,12,13,14,15,16,17,18,19,20,21,22,23,24],[0,1,2,3,4,5,6,7,8,9,10,11,12,13,14,15,16,17,18,19,20,21,22,23,24,25],[0,1,2,3,4,5,6,7,8,9,10,11,12,13,14,15,16,17,18,19,20,21,22,23,24,25,26],[0,1,2,3,4,5,6,7,8,9,10,11,12,13,14,15,16,17,18,19,20,21,22,23,24,25,26],[0,1,2,3,4,5,6,7,8,9,10,11,12,13,14,15,16,17,18,19,20,21,22,23,24,25,26],[0,1,2,3,4,5,6,7,8,9,10,11,12,13,14,15,16,17,18,19,20,21,22,23,24,25,26,29],[0,1,2,3,4,5,6,7,8,9,10,11,12,13,14,15,16,17,18,19,20,21,22,23,24,25,26],[0,1,2,3,4,5,6,7,8,9,10,11,12,13,14,15,16,17,18,19,20,21,22,23,24,25,26,31],[0,1,2,3,4,5,6,7,8,9,10,11,12,13,14,15,16,17,18,19,20,21,22,23,24,25,26,31,32],[0,1,2,3,4,5,6,7,8,9,10,11,12,13,14,15,16,17,18,19,20,21,22,23,24,25,26],[0,1,2,3,4,5,6,7,8,9,10,11,12,13,14,15,16,17,18,19,20,21,22,23,24,25,26,34],[0,1,2,3,4,5,6,7,8,9,10,11,12,13,14,15,16,17,18,19,20,21,22,23,24,25,26,34,35],[0,1,2,3,4,5,6,7,8,9,10,11,12,13,14,15,16,17,18,19,20,21,22,23,24,25,26],[0,1,2,3,4,5,6,7,8,9,10,11,12,13,14,15,16,17,18,19,20,21,22,23,24,25,26,37],[0,1,2,3,4,5,6,7,8,9,10,11,12,13,14,15,16,17,18,19,20,21,22,23,24,25,26,27,28,29,30,31,32,33,34,35,36,37,38],[0,1,2,3,4,5,6,7,8,9,10,11,12,13,14,15,16,17,18,19,20,21,22,23,24,25,26,27,28,29,30,31,32,33,34,35,36,37,38,39],[0,1,2,3,4,5,6,7,8,9,10,11,12,13,14,15,16,17,18,19,20,21,22,23,24,25,26,27,28,29,30,31,32,33,34,35,36,37,38,39,40],[0,1,2,3,4,5,6,7,8,9,10,11,12,13,14,15,16,17,18,19,20,21,22,23,24,25,26,27,28,29,30,31,32,33,34,35,36,37,38,39,40,41]] [0,1,2,3,4,5,6,7,8,9,10,11,12,13,14] [⟨[],[],15,[11,12],[16,17,18,19,20,21,22]⟩,⟨[],[],23,[],[24,25,26,27,28,29,30,31,32,33,34,35,36,37,38]⟩,⟨[],[],39,[],[40,41]⟩,⟨[],[],42,[],[]⟩] (by kernel_rfl) (by kernel_rfl) (by kernel_rfl) ?_; refine rn F ?_))
    all_goals first
      | (have hq:eqC y.c z.c.inv = true:=hQ.2 (by assumption)
         rw [eS,hq]
         simp [*]
         done)
      | (have hq:eqC y.c z.c.inv = false:=Bool.eq_false_iff.2 fun h=>by obtain ⟨h1,h2,h3,h4,h5,h6⟩:=hQ.1 h; exact hZ h1 h2 h3 h4 h5 h6
         rw [eS,hq]
         simp
         done)
      | (rw [eS]
         simp [*]
         done)
theorem QCj {x:Lg} {i:Nat} (h:lgB x = true) (hi:i < x.es.length):(x.es.getD i E0).lsn = x.f + i/\((x.es.getD i E0).kind = 2->(x.es.getD i E0).ref < x.f + i):=by
  unfold lgB at h
  rw [Bool.and_eq_true,List.all_eq_true] at h
  have h2:=h.2 i (List.mem_range.2 hi)
  unfold lgC at h2
  rw [Bool.and_eq_true] at h2
  have h3:=of_decide_eq_true h2.1
  refine ⟨h3,fun hk=>?_⟩
  have h4:=h2.2
  unfold E.okB E.kindB at h4
  generalize x.es.getD i E0 = e at *
  rw [if_neg (by omega),if_pos hk] at h4
  simp only [Bool.and_eq_true,decide_eq_true_eq] at h4
  have h5:=h4.1.2
  unfold bef at h5
  simp at h5
  omega
def Qls (f:Int) (es:List E) (i:Nat):Bool:=!(decide (0 < (es.getD i E0).tx) && !txR f es i) && (!(QeI (es.getD i E0) && !Qku f es i) && !(decide ((es.getD i E0).kind = 2) && !QlT f es i))
def QoF (x:Lg):Int:=if lgB x = true then (if (List.range x.es.length).all (Qls x.f x.es) = true then 0 else 13) else 26
theorem QBY (x:Lg) (hx:x.es.length<=9223372036854775807):VCalls prog 12 [.agg x.c] [] (Ret (.int .i64 (QoF x))):=by
  refine dd Tryz.func12 ?_
  have hv:=Qad x hx
  unfold Lg.c at hv
  cases hlg:lgB x
  · rw [hlg] at hv
    (unfold Tryz.f12; refine rn trivial ?_)
    refine rn F ?_
    repeat' (first
      | with_reducible exact ⟨⟩
      | refine vp F (hv) ?_)
    rw [QoF,hlg]
    rfl
  rw [hlg] at hv
  have hes:x.es.length<=4096:=(QaC hlg).2.2.1
  have hf:=QaC hlg
  have hS:QoF x = if (List.range x.es.length).all (Qls x.f x.es) = true then 0 else 13:=by rw [QoF,if_pos hlg]
  have hok:=fun i=>QCj (x:=x) (i:=i) hlg
  (unfold Tryz.f12; refine rn trivial ?_)
  refine rn F ?_
  repeat' (first
    | with_reducible exact ⟨⟩
    | refine vp F (hv) ?_)
  refine Qh (fun s:Okay x.es.length (Qls x.f x.es)=>⟨50,0,[(3,.int .i64 s.i),(1,.ptr 0 0)],[⟨25,true,x.c⟩]⟩) (fun s=>x.es.length - s.i) (Okay.start _ _) (gc [0]) ?_
  intro s
  have hs:=s.hi
  by_cases hc:s.i < x.es.length
  · have hc':((s.i:Nat):Int) < x.es.length:=by omega
    have hg:=QdB x.es s.i hc
    have ht:=QuV x s.i hc (by omega)
    have hp:=Qy1 x s.i hc (by omega)
    have hu:=fun h=>QyH x s.i hc (by omega) ⟨by have:=hf.1; omega,hf.2.1⟩ h
    have hr:=hok s.i hc
    have hrok:Qls x.f x.es s.i = (!(decide (0 < (x.es.getD s.i E0).tx) && !txR x.f x.es s.i) && (!(QeI (x.es.getD s.i E0) && !Qku x.f x.es s.i) && !(decide ((x.es.getD s.i E0).kind = 2) && !QlT x.f x.es s.i))):=rfl
    generalize txR x.f x.es s.i = tR at *
    generalize Qku x.f x.es s.i = pR at *
    generalize QlT x.f x.es s.i = uR at *
    obtain ⟨e,he⟩:∃ e,x.es.getD s.i E0 = e:=⟨_,rfl⟩
    rw [he] at hg hr hu hrok
    have hch:VCalls prog 17 [.agg e.d] [] (Ret (.bool (QeI e))):=Qa9 e
    unfold Lg.c at ht hp hu
    unfold E.d at hch
    generalize QeI e = ch at *
    cases tR<;>cases pR
    · skip
      have F:=(And.intro @hc' @hg)
      refine rn F ?_
      repeat' (first
        | with_reducible exact ⟨⟩
        | (refine sG F ?_ ?_<;>intro hZ)
        | (refine sB F ?_ ?_<;>intro hZ)
        | refine vp F (ht) ?_
        | refine vp F (hp) ?_
        | refine vp F (hu (hr.2 (by assumption))) ?_
        | refine vp F (hch) ?_)
      all_goals first
        | (have hq:Qls x.f x.es s.i = false:=by rw [hrok]; simp [*]; done
           rw [hS,if_neg (by rw [Qbd hc hq]; simp)])
        | (have hq:Qls x.f x.es s.i = true:=by rw [hrok]; simp [*]; done
           exact ⟨s.next hc hq,s.dec hc,(gc [0])⟩)
    · skip
      have F:=(And.intro @hc' @hg)
      refine rn F ?_
      repeat' (first
        | with_reducible exact ⟨⟩
        | (refine sG F ?_ ?_<;>intro hZ)
        | (refine sB F ?_ ?_<;>intro hZ)
        | refine vp F (ht) ?_
        | refine vp F (hp) ?_
        | refine vp F (hu (hr.2 (by assumption))) ?_
        | refine vp F (hch) ?_)
      all_goals first
        | (have hq:Qls x.f x.es s.i = false:=by rw [hrok]; simp [*]; done
           rw [hS,if_neg (by rw [Qbd hc hq]; simp)])
        | (have hq:Qls x.f x.es s.i = true:=by rw [hrok]; simp [*]; done
           exact ⟨s.next hc hq,s.dec hc,(gc [0])⟩)
    · skip
      have F:=(And.intro @hc' @hg)
      refine rn F ?_
      repeat' (first
        | with_reducible exact ⟨⟩
        | (refine sG F ?_ ?_<;>intro hZ)
        | (refine sB F ?_ ?_<;>intro hZ)
        | refine vp F (ht) ?_
        | refine vp F (hp) ?_
        | refine vp F (hu (hr.2 (by assumption))) ?_
        | refine vp F (hch) ?_)
      all_goals first
        | (have hq:Qls x.f x.es s.i = false:=by rw [hrok]; simp [*]; done
           rw [hS,if_neg (by rw [Qbd hc hq]; simp)])
        | (have hq:Qls x.f x.es s.i = true:=by rw [hrok]; simp [*]; done
           exact ⟨s.next hc hq,s.dec hc,(gc [0])⟩)
    · skip
      have F:=(And.intro @hc' @hg)
      refine rn F ?_
      repeat' (first
        | with_reducible exact ⟨⟩
        | (refine sG F ?_ ?_<;>intro hZ)
        | (refine sB F ?_ ?_<;>intro hZ)
        | refine vp F (ht) ?_
        | refine vp F (hp) ?_
        | refine vp F (hu (hr.2 (by assumption))) ?_
        | refine vp F (hch) ?_)
      all_goals first
        | (have hq:Qls x.f x.es s.i = false:=by rw [hrok]; simp [*]; done
           rw [hS,if_neg (by rw [Qbd hc hq]; simp)])
        | (have hq:Qls x.f x.es s.i = true:=by rw [hrok]; simp [*]; done
           exact ⟨s.next hc hq,s.dec hc,(gc [0])⟩)
  · have hc':¬ ((s.i:Nat):Int) < x.es.length:=by omega
    refine rn @hc' ?_
    rw [hS,if_pos (s.all hc)]
end
end Go.Proofs.YtepcgifhpjapkaaGreat

