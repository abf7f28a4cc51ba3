/-
  Contracts of functions and plain laws. No condition.
-/
import Derived.WalkKit
import Derived.ProofKit
import Derived.Lib.Builder
import Derived.Lib.UnsafeStr
import Derived.Lib.SliceRun
set_option linter.unusedSimpArgs false
set_option linter.unusedVariables false
set_option linter.defProp false
set_option maxRecDepth 100000
set_option maxHeartbeats 8000000
set_option autoImplicit true
set_option relaxedAutoImplicit true
def vz{p:Prop}(h:p:=by omega):p:=h
def vw{p:Prop}(h:p:=by kernel_rfl):p:=h
def vv{p:Prop}(h:p:=by simp):p:=h
def vu{p:Prop}(h:p:=by dsimp only;omega):p:=h
def vq{p:Prop}(h:p:=by assumption):p:=h
def vj{p:Prop}(h:p:=by decide):p:=h
def vg{p:Prop}(h:p:=by simp;omega):p:=h
def wz{p:Prop}(h:p:=by first|assumption|omega):p:=h
def wy{p:Prop}(h:p:=by first|assumption|simp_all):p:=h
def wx{p:Prop}(h:p:=by first|assumption|(dsimp only;omega)):p:=h
def wv{p:Prop}(h:p:=by first|assumption|rfl):p:=h
def wu{p:Prop}(h:p:=by simp[DV.nums.go,DV.nums]):p:=h
def wq{p:Prop}(h:p:=by simp;try omega):p:=h
def wj{p:Prop}(h:p:=by first|assumption|decide):p:=h
def wg{p:Prop}(h:p:=by first|assumption|(dsimp only;assumption)|(dsimp only;decide)):p:=h
open Array renaming getD_eq_getD_getElem?->Jb,eq_empty_of_size_eq_zero->Jj,getElem?_eq_some_iff->JB,getElem?_setIfInBounds->JI,getElem?_append_left->JM,getElem?_eq_getElem->JP,getElem?_extract->JU,getElem?_modify->JZ
open Bool renaming and_eq_true->Jw
open List renaming getElem?_eq_some_iff->Ja,getElem?_take->Jc,getElem?_drop->Jf,getElem?_append_left->Jh,getElem?_append->Ji,getElem?_append_right->Jk,getElem?_map->Jl,getElem?_eq_getElem->Jm,getElem?_set_self->Jn,mem_iff_getElem?->Jo,mem_of_mem_take->Jq,length_cons->Js,getElem?_eq_none->Ju,getElem?_set_ne->Jv,eq_nil_of_length_eq_zero->Jx,length_append->Jy,append_assoc->Jz,getElem?_cons_zero->JD,take_of_length_le->JE,getElem?_toArray->JG,mem_of_mem_drop->JH,range->JJ,mem_append->JK,getD_eq_getElem?_getD->JL,take_zero->JO,getElem?_cons_succ->JQ,length->JR,length_drop->JT,length_nil->JW,length_singleton->JX,getElem_of_mem->J0,map_cons->J2,ext_getElem?->J5,length_take->J8,foldl_cons->Kc,foldr_cons->Kd,forIn_cons->Ke,length_map->Kf,mapM_cons->Kh,drop_zero->Ki,range'->Km
open Nat renaming le_refl->Jd,mul_le_mul_right->Je,lt_of_lt_of_le->Jg,le_mul_of_pos_right->Jp,add_mul->Jr,le_trans->Jt,add_assoc->JA,add_le_add_left->JC,lt_trichotomy->JF,add_zero->JN,lt_or_ge->JV,min_le_left->JY,lt_irrefl->J1,add_sub_cancel->J3,add_mod_right->J4,zero_mul->J6,mod_eq_of_lt->J7,min_le_right->J9,zero_le->Kb,not_lt->Kj,sub_self->Kk,zero_add->Kl
open Option renaming some->JS,bind_some->Ka,map_some->Kg
namespace Go.V
open Go.RowKit (Below)
inductive PV where
 |lit (v:Value)
 |str (l:List UInt8)
 |sl (xs:List (List PV))
 |slc (xs:List (List PV))
 deriving Inhabited
inductive DV where
 |pv (p:PV)
 |ptr (k off:Nat)
 |own (k sz off len:Nat)
 |ownc (k sz off len cap:Nat)
 |ip (cs:List PV)
 |agg (cs:List DV)
 |fn (f:Fn) (first cap:List DV)
 |tup (vs:List DV)
 |opt (c:Bool) (d:DV)
 |any
 deriving Inhabited
structure Blk where
 ty:TypeId
 live:Bool
 cells:List DV
 deriving Inhabited
abbrev Qb:=List Blk
structure Map where
 f:Nat->Option Nat
 X:Nat->Prop
def live(β:Map)(hp:Qb)(b:Nat):Prop:=∃k B,hp[k]?=some B/\B.live=true/\β.f k=some b
def img(β:Map)(hp:Qb)(b:Nat):Prop:=β.X b\/live β hp b
def at_(ad:Addr)(n:Nat):Addr:=⟨ad.block,ad.off+n,none⟩
inductive RelP (w:World) (im:Nat->Prop):PV->Value->Prop
 |lit (v:Value):v.oneCell'=true->RelP w im (.lit v) v
 |str (l:List UInt8):RelP w im (.str l) (.string ⟨l.toArray⟩)
 |sl (xs:List (List PV)) (a:Option Addr) (cap sz:Nat) (val:Nat->Nat->Value) :
  xs.length<=cap->cap<=maxLen ->
  (∀(i:Nat) (c:List PV),xs[i]?=some c->c.length=sz) ->
  (∀ad,a=some ad->0<cap->ad.spot=none) ->
  (∀(i j:Nat) (c:List PV) (d:PV),xs[i]?=some c->c[j]?=some d->∃ad,a=some ad/\ad.block<w.heap.size/\¬im ad.block/\w.cell? (at_ ad (i*sz+j))=some (val i j)) ->
  (∀(i j:Nat) (c:List PV) (d:PV),xs[i]?=some c->c[j]?=some d->RelP w im d (val i j)) ->
  RelP w im (.sl xs) (.slice a xs.length cap)
 |slc (xs:List (List PV)) (a:Option Addr) (sz:Nat) (val:Nat->Nat->Value) :
  xs.length<=maxLen ->
  (∀(i:Nat) (c:List PV),xs[i]?=some c->c.length=sz) ->
  (∀ad,a=some ad->0<xs.length->ad.spot=none) ->
  (∀(i j:Nat) (c:List PV) (d:PV),xs[i]?=some c->c[j]?=some d->∃ad,a=some ad/\ad.block<w.heap.size/\¬im ad.block/\w.cell? (at_ ad (i*sz+j))=some (val i j)) ->
  (∀(i j:Nat) (c:List PV) (d:PV),xs[i]?=some c->c[j]?=some d->RelP w im d (val i j)) ->
  RelP w im (.slc xs) (.slice a xs.length xs.length)
inductive RelD (w:World) (β:Map) (hp:Qb):DV->Value->Prop
 |pv (p:PV) (v:Value):RelP w (img β hp) p v->RelD w β hp (.pv p) v
 |ptr (k off b:Nat):k<hp.length->β.f k=some b->RelD w β hp (.ptr k off) (.pointer (some ⟨b,off,none⟩))
 |own (k sz off len cap b:Nat) (C:Array Value) (T:TypeId) (m:Nat×Nat):k<hp.length->β.f k=some b->len<=cap->cap<=maxLen->w.heap[b]?=some (.cells C T m) ->
  off+cap*sz<=C.size->RelD w β hp (.own k sz off len) (.slice (some ⟨b,off,none⟩) len cap)
 |ownc (k sz off len cap b o:Nat) (C:Array Value) (T:TypeId) (m:Nat×Nat):k<hp.length->β.f k=some b->len<=cap->cap<=maxLen->w.heap[b]?=some (.cells C T m) ->
  off+cap*sz<=C.size->(0<cap->o=off)->RelD w β hp (.ownc k sz off len cap) (.slice (some ⟨b,o,none⟩) len cap)
 |own0 (k sz:Nat) (a:Option Addr):k<hp.length->β.f k=none->True->RelD w β hp (.own k sz 0 0) (.slice a 0 0)
 |ip (cs:List PV) (ad:Addr) (val:Nat->Value):ad.spot=none ->
  (∀(j:Nat) (d:PV),cs[j]?=some d->ad.block<w.heap.size/\¬img β hp ad.block/\w.cell? (at_ ad j)=some (val j)) ->
  (∀(j:Nat) (d:PV),cs[j]?=some d->RelP w (img β hp) d (val j)) ->
  RelD w β hp (.ip cs) (.pointer (some ad))
 |agg (ds:List DV) (vs:Array Value):ds.length=vs.size->(∀(i:Nat) (d:DV),ds[i]?=some d->RelD w β hp d (vs.getD i undef))->RelD w β hp (.agg ds) (.agg vs)
 |fn (f:Fn) (ds es:List DV) (vs us:Array Value):ds.length=vs.size->es.length=us.size ->
  (∀(i:Nat) (d:DV),ds[i]?=some d->RelD w β hp d (vs.getD i undef))->(∀(i:Nat) (d:DV),es[i]?=some d->RelD w β hp d (us.getD i undef)) ->
  RelD w β hp (.fn f ds es) (.func f vs us)
 |tup (ds:List DV) (vs:Array Value):ds.length=vs.size->(∀(i:Nat) (d:DV),ds[i]?=some d->RelD w β hp d (vs.getD i undef))->RelD w β hp (.tup ds) (.tuple vs)
 |opt (c:Bool) (d:DV) (v:Value):(c=true->RelD w β hp d v)->(c=false->v=undef)->RelD w β hp (.opt c d) v
 |any (v:Value):RelD w β hp .any v
def DV.one:DV->Bool
 |.pv _|.ptr _ _|.own _ _ _ _|.ownc _ _ _ _ _|.ip _|.fn _ _ _=>true
 |_=>false
def RelP.one(h:RelP w im p v):v.oneCell'=true:=by
 cases h<;>first|assumption|rfl
def RelD.one(h:RelD w β hp d v)(ho:d.one=true):v.oneCell'=true:=by
 cases h<;>first|rfl|(simp[DV.one] at ho;done)|(rename_i h;exact h.one)
structure Row where
 v:Array Value
 m:Nat×Nat
 ok:m.2<=m.1
structure HeapRel(w:World)(β:Map)(hp:Qb):Prop where
 blk:∀k B b,hp[k]?=some B->B.live=true->β.f k=some b->∃C:Row,w.heap[b]?=some (.cells C.v B.ty C.m)/\B.cells.length<=C.v.size /\
  ∀i d,B.cells[i]?=some d->d.one=true/\RelD w β hp d (C.v.getD i undef)
 none:∀k B,hp[k]?=some B->B.live=true->β.f k=none->B.cells=[]
 inj:∀j k B B' b,hp[j]?=some B->hp[k]?=some B'->B.live=true->B'.live=true->β.f j=some b->β.f k=some b->j=k
 avoid:∀k B b,hp[k]?=some B->B.live=true->β.f k=some b->¬β.X b
 bound:∀b,β.X b->b<w.heap.size
structure Evo(w:World)(β:Map)(hp:Qb)(w':World)(β':Map)(hp':Qb):Prop where
 os:w'.os=w.os
 tape:w'.tape=w.tape
 output:w'.output=w.output
 size:w.heap.size<=w'.heap.size
 len:hp.length<=hp'.length
 beta:∀k,k<hp.length->β'.f k=β.f k
 same:∀b,b<w.heap.size->¬live β hp b->w'.heap[b]?=w.heap[b]?
 shape:∀(b:Nat) (C:Array Value) (T:TypeId) (m:Nat×Nat),w.heap[b]?=some (.cells C T m)->∃C' m',w'.heap[b]?=some (.cells C' T m')/\C'.size=C.size
 im:∀b,b<w.heap.size->live β' hp' b->live β hp b
 X:β'.X=β.X
def Evo.same'(e:Evo w β hp w' β' hp'):∀b,b<w.heap.size->¬img β hp b->w'.heap[b]?=w.heap[b]?:=
 fun b h n=>e.same b h (fun l=>n (.inr l))
def Evo.im'(e:Evo w β hp w' β' hp'):∀b,b<w.heap.size->img β' hp' b->img β hp b:=
 fun b h l=>l.imp (fun x=>by rw[<-e.X];exact x) (e.im b h)
def Evo.refl(w:World)(β:Map)(hp:Qb):Evo w β hp w β hp:=
 ⟨rfl,rfl,rfl,Jd _,Jd _,fun _ _=>rfl,fun _ _ _=>rfl,fun _ C _ m h=>⟨C,m,h,rfl⟩,fun _ _ h=>h,rfl⟩
def Evo.trans(a:Evo w0 β0 h0 w1 β1 h1)(b:Evo w1 β1 h1 w2 β2 h2):Evo w0 β0 h0 w2 β2 h2:=by
 refine⟨b.os.trans a.os,b.tape.trans a.tape,b.output.trans a.output,Jt a.size b.size,Jt a.len b.len,?_,?_,?_,?_,b.X.trans a.X⟩
 ·intro k hk;rw[b.beta k (Jg hk a.len),a.beta k hk]
 ·intro x hx hi;rw[b.same x (Jg hx a.size) (fun h=>hi (a.im x hx h)),a.same x hx hi]
 ·intro x C T m h;obtain⟨C',m',h',e⟩:=a.shape x C T m h;obtain⟨C'',m'',h'',e'⟩:=b.shape x C' T m' h';exact⟨C'',m'',h'',e'.trans e⟩
 ·intro x hx h;exact a.im x hx (b.im x (Jg hx a.size) h)
def oH{w w':World}{a:Addr}(h:w'.heap[a.block]?=w.heap[a.block]?):w'.cell? a=w.cell? a:=by simp[World.cell?,h]
def RelP.mono (h:RelP w im p v) (hsz:w.heap.size<=w'.heap.size) (hs:∀b,b < w.heap.size->¬im b->w'.heap[b]? = w.heap[b]?) (hi:∀b,b < w.heap.size->im' b->im b):RelP w' im' p v:=by
 induction h with
 |lit v h=>exact .lit v h
 |str l=>exact .str l
 |sl xs a cap sz val h1 h2 h3 h4 h5 _ ih =>
   refine .sl xs a cap sz val h1 h2 h3 h4 (fun i j c d hc hd=>?_) (fun i j c d hc hd=>ih i j c d hc hd);obtain⟨ad,e,hb,hn,hcell⟩:=h5 i j c d hc hd;exact⟨ad,e,Jg hb hsz,fun x=>hn (hi _ hb x),by rw[oH (w:=w) (a:=at_ ad (i*sz+j)) (hs ad.block hb hn)];exact hcell⟩
 |slc xs a sz val h2 h3 h4 h5 _ ih =>
   refine .slc xs a sz val h2 h3 h4 (fun i j c d hc hd=>?_) (fun i j c d hc hd=>ih i j c d hc hd);obtain⟨ad,e,hb,hn,hcell⟩:=h5 i j c d hc hd;exact⟨ad,e,Jg hb hsz,fun x=>hn (hi _ hb x),by rw[oH (w:=w) (a:=at_ ad (i*sz+j)) (hs ad.block hb hn)];exact hcell⟩
def RelD.mono (h:RelD w β hp d v) (e:Evo w β hp w' β' hp'):RelD w' β' hp' d v:=by
 induction h with
 |pv p v h=>exact .pv p v (h.mono e.size e.same' e.im')
 |ptr k off b h hb=>exact .ptr k off b (Jg h e.len) ((e.beta k h).trans hb)
 |own k sz off len cap b C T m h hb h1 h2 h3 h4 =>
   obtain⟨C',m',h3',hs⟩:=e.shape _ _ _ _ h3;exact .own k sz off len cap b C' T m' (Jg h e.len) ((e.beta k h).trans hb) h1 h2 h3' (by rw[hs];exact h4)
 |ownc k sz off len cap b o C T m h hb h1 h2 h3 h4 h5 =>
   obtain⟨C',m',h3',hs⟩:=e.shape _ _ _ _ h3;exact .ownc k sz off len cap b o C' T m' (Jg h e.len) ((e.beta k h).trans hb) h1 h2 h3' (by rw[hs];exact h4) h5
 |own0 k sz a h hb ha=>exact .own0 k sz a (Jg h e.len) ((e.beta k h).trans hb) ha
 |ip cs ad val h1 h2 h3 =>
   refine .ip cs ad val h1 (fun j d hd=>?_) (fun j d hd=>(h3 j d hd).mono e.size e.same' e.im');obtain⟨a,b,c⟩:=h2 j d hd;exact⟨Jg a e.size,fun x=>b (e.im' _ a x),by rw[oH (w:=w) (a:=at_ ad j) (e.same' _ a b)];exact c⟩
 |agg ds vs h _ ih=>exact .agg ds vs h ih
 |fn f ds es vs us h h' _ _ ih ih'=>exact .fn f ds es vs us h h' ih ih'
 |tup ds vs h _ ih=>exact .tup ds vs h ih
 |opt c d v _ hf ih=>exact .opt c d v ih hf
 |any v=>exact .any v
def DV.refs(n:Nat):DV->Bool
 |.ptr k _|.own k _ _ _|.ownc k _ _ _ _=>decide (k<n)
 |.pv _|.ip _|.any=>true
 |.agg cs|.tup cs=>go n cs
 |.fn _ a b=>go n a&&go n b
 |.opt _ d=>d.refs n
where
 go (n:Nat):List DV->Bool
  |[]=>true
  |d::r=>d.refs n&&go n r
def DV.refs_go (h:DV.refs.go n ds = true):∀(i:Nat) (d:DV),ds[i]? = some d->d.refs n = true:=by
 induction ds with
 |nil=>intro i d h;simp at h
 |cons x r ih =>
   simp only[DV.refs.go,Jw] at h;intro i d hd;cases i with
   |zero=>simp at hd;subst hd;exact h.1
   |succ i=>exact ih h.2 i d (by simpa using hd)
def RelD.drop (h:RelD w β hp d v) (hr:d.refs hp'.length = true) (him:∀b,img β hp' b->img β hp b):RelD w β hp' d v:=by
 induction h with
 |pv p v h=>exact .pv p v (h.mono (Jd _) (fun _ _ _=>rfl) (fun b _=>him b))
 |ptr k off b h hb=>exact .ptr k off b (by simpa [DV.refs] using hr) hb
 |own k sz off len cap b C T m h hb h1 h2 h3 h4=>exact .own k sz off len cap b C T m (by simpa [DV.refs] using hr) hb h1 h2 h3 h4
 |ownc k sz off len cap b o C T m h hb h1 h2 h3 h4 h5=>exact .ownc k sz off len cap b o C T m (by simpa [DV.refs] using hr) hb h1 h2 h3 h4 h5
 |own0 k sz a h hb ha=>exact .own0 k sz a (by simpa [DV.refs] using hr) hb ha
 |ip cs ad val h1 h2 h3 =>
   exact .ip cs ad val h1 (fun j d hd=>⟨(h2 j d hd).1,fun x=>(h2 j d hd).2.1 (him _ x),(h2 j d hd).2.2⟩) (fun j d hd=>(h3 j d hd).mono (Jd _) (fun _ _ _=>rfl) (fun b _=>him b))
 |agg ds vs h _ ih=>exact .agg ds vs h (fun i d hd=>ih i d hd (DV.refs_go (by simpa [DV.refs] using hr) i d hd))
 |fn f ds es vs us h h' _ _ ih ih' =>
   have hr':DV.refs.go hp'.length ds=true/\DV.refs.go hp'.length es=true:=by simpa [DV.refs] using hr
   exact .fn f ds es vs us h h' (fun i d hd=>ih i d hd (DV.refs_go hr'.1 i d hd)) (fun i d hd=>ih' i d hd (DV.refs_go hr'.2 i d hd))
 |tup ds vs h _ ih=>exact .tup ds vs h (fun i d hd=>ih i d hd (DV.refs_go (by simpa [DV.refs] using hr) i d hd))
 |opt c d v _ hf ih=>exact .opt c d v (fun hc=>ih hc (by simpa [DV.refs] using hr)) hf
 |any v=>exact .any v
end Go.V
namespace Go.V
structure St where
 nt:Nat
 base:Nat
 tm:List (Nat×DV)
 hp:Qb
def look:List (Nat×DV)->Nat->DV
 |[],_=>.any
 |(a,d)::r,t=>if a=t then d else look r t
def iP:Value->DV
 |.string s=>.pv (.str s.data.toList)
 |.slice none 0 0=>.pv (.slc [])
 |.agg _=>.any
 |.tuple _=>.any
 |v=>.pv (.lit v)
def St.ev(S:St):Operand->DV
 |.tmp t=>look S.tm t
 |.const v=>iP v
 |.global _=>.any
 |.func f=>.fn (.func f) [] []
def Dg(w:World)(im:Nat->Prop)(a:Option Addr)(_h:∀ad,a=some ad->ad.spot=none):RelP w im (.slc []) (.slice a 0 0):=
 .slc [] a 0 (fun _ _=>undef) (Kb _) vv (fun _ _ h0=>absurd h0 vv) vv vv
def Dh(w:World)(β:Map)(hp:Qb)(v:Value):RelD w β hp (iP v) v:=by
 unfold iP;split
 ·exact .pv _ _ (.str _)
 ·exact .pv _ _ (Dg w _ none vv)
 ·exact .any _
 ·exact .any _
 ·rename_i h1 h2 h3 h4;refine .pv _ _ (.lit _ ?_);cases v<;>first|rfl|exact absurd rfl (h3 _)|exact absurd rfl (h4 _)
structure Org where
 w:World
 β:Map
 hp:Qb
 ds:List Deferred
structure Sim(O:Org)(β:Map)(S:St)(a:Act)(w:World):Prop where
 defers:a.defers=O.ds
 size:a.tmps.size=S.nt
 tm:∀t,RelD w β S.hp (look S.tm t) (a.tmps.getD t undef)
 heap:HeapRel w β S.hp
 evo:Evo O.w O.β O.hp w β S.hp
 base:O.hp.length=S.base
def Sim.ev(h:Sim O β S a w)(x:Operand):RelD w β S.hp (S.ev x) (a.eval x):=by
 cases x with
 |tmp t=>exact h.tm t
 |const v=>exact Dh w β S.hp v
 |global g=>exact .any _
 |func f=>exact .fn _ [] [] #[] #[] rfl rfl vv vv
def St.put(S:St)(dst:Option Tmp)(d:DV):St:=
 match dst with
 |some t=>{ S with tm:=(t,d)::S.tm }
 |none=>S
def St.fits(S:St)(dst:Option Tmp):Bool:=
 match dst with
 |some t=>decide (t<S.nt)
 |none=>true
def Sim.step {O:Org} {β β':Map} {S:St} {a:Act} {w w':World} {hp':Qb} {d:DV} {v:Value} {dst:Option Tmp} (h:Sim O β S a w)
 (e:Evo w β S.hp w' β' hp') (hh:HeapRel w' β' hp') (hd:RelD w' β' hp' d v) (hf:S.fits dst=true) :
 Sim O β' (St.put { S with hp:=hp' } dst d) (a.put dst v) w':=by
 cases dst with
 |none=>exact⟨h.defers,h.size,fun t=>(h.tm t).mono e,hh,h.evo.trans e,h.base⟩
 |some t =>
   have hlt:t<a.tmps.size:=by rw[h.size];simpa [St.fits] using hf
   refine⟨h.defers,by simp[Act.put,St.put,h.size],fun u=>?_,hh,h.evo.trans e,h.base⟩;simp only[St.put,look,Act.put];split
   ·rename_i htu;subst htu;simpa [Jb,hlt] using hd
   ·rename_i htu;have:=(h.tm u).mono e;simpa [Jb,JI,htu] using this
def vt(P:Program)(T:TypeId):Option (Option Nat):=
 match P.underlying T,P.info? T with
 |some (.struct _),some i=>some (some i.size)
 |some (.array _ _),some i=>some (some i.size)
 |some _,some i=>if i.size=1 then some none else none
 |_,_=>none
def gn(h:vt P T=some (some n))(w:World):
 (isAgg T).run P w=.ok true w/\(sizeOf T).run P w=.ok n w:=by
 unfold vt at h;split at h
 ·rename_i i hu hi;simp at h;subst h;simp[isAgg,run_underlying hu,sizeOf,typeInfo,hi]
 ·rename_i i hu hi;simp at h;subst h;simp[isAgg,run_underlying hu,sizeOf,typeInfo,hi]
 ·split at h<;>simp at h
 ·simp at h
def jD(h:vt P T=some none)(w:World):
 (isAgg T).run P w=.ok false w/\(sizeOf T).run P w=.ok 1 w:=by
 unfold vt at h;split at h
 ·simp at h
 ·simp at h
 ·rename_i d i h1 h2 hu hi;split at h
  ·rename_i hs;refine⟨?_,by simp[sizeOf,typeInfo,hi,hs]⟩;simp only[isAgg,Sem.run_bind,run_underlying hu,Result.andThen_ok];cases d<;>first|rfl|(exact absurd hu (h1 _ ))|(exact absurd hu (h2 _ _))
  ·simp at h
 ·simp at h
def Qc(hp:Qb)(k:Nat):Option (List DV):=
 match hp[k]? with
 |some B=>if B.live then some B.cells else none
 |none=>none
def eD (P:Program) (hp:Qb) (T:TypeId):DV->Option DV
 |.ptr k off =>
   match Qc hp k,vt P T with
   |some cs,some none=>cs[off]?
   |some cs,some (some n)=>if off+n<=cs.length then some (.agg ((cs.drop off).take n)) else none
   |_,_=>none
 |.ip cs =>
   match vt P T with
   |some none=>cs[0]?.map .pv
   |some (some n)=>if n<=cs.length then some (.agg ((cs.take n).map .pv)) else none
   |none=>none
 |_=>none
def gq(n:Nat):(⟨b,o,none⟩:Addr).add n=⟨b,o+n,none⟩:=Addr.add_lit b o n
def kV(h:ad.spot=none)(n:Nat):ad.add n=at_ ad n:=by
 obtain⟨b,o,s⟩:=ad;simp at h;subst h;exact gq n
def gu(hh:HeapRel w β hp)(hb:Qc hp k=some cs)(hm:β.f k=some b):
 ∃(B:Blk) (C:Row),hp[k]?=some B/\B.live=true/\B.cells=cs/\w.heap[b]?=some (.cells C.v B.ty C.m)/\cs.length<=C.v.size/\∀(i:Nat) (d:DV),cs[i]?=some d->d.one=true/\RelD w β hp d (C.v.getD i undef):=by
 unfold Qc at hb;split at hb
 ·rename_i B hk;split at hb
  ·rename_i hl;simp at hb;subst hb;obtain⟨C,h1,h2,h3⟩:=hh.blk k B b hk hl hm;exact⟨B,C,hk,hl,rfl,h1,h2,h3⟩
  ·simp at hb
 ·simp at hb
def iQ{w:World}{C:Array Value}(h:w.heap[b]?=some (.cells C T m))(hi:o<C.size):w.cell? ⟨b,o,none⟩=some (C.getD o undef):=by
 simp[World.cell?,h,hi]
def Di (hh:HeapRel w β hp) (hd:RelD w β hp d v) (h:eD P hp T d = some d'):
 ∃v',(Instr.loadAt T v).run P w=.ok v' w/\RelD w β hp d' v':=by
 cases hd with
 |ptr k off b hk hm =>
   simp only[eD] at h;split at h
   ·rename_i cs hb ht;obtain⟨B,C,h1,h2,h3,h4,h5,h6⟩:=gu hh hb hm
    have hlt:off<cs.length:=by
     rcases JV off cs.length with hl|hl
     ·exact hl
     ·simp[Ju hl] at h
    have hc:=iQ h4 (o:=off) vz;refine⟨C.v.getD off undef,?_,(h6 off d' h).2⟩;simp[Instr.loadAt,Instr.sureAddr,loadVar,(jD ht w).1,hc]
   ·rename_i cs n hb ht;split at h
    ·rename_i hn;obtain⟨B,C,h1,h2,h3,h4,h5,h6⟩:=gu hh hb hm;simp at h;subst h
     have hc:∀j,j<n->w.cell? ((⟨b,off,none⟩:Addr).add j)=some (C.v.getD (off+j) undef):=fun j hj=>by
      rw[gq];exact iQ h4 vz
     have hr:=run_loadCells (P:=P) w ⟨b,off,none⟩ n (fun j=>C.v.getD (off+j) undef) hc;refine⟨.agg ((JJ n).map fun j=>C.v.getD (off+j) undef).toArray,?_,.agg _ _ ?_ ?_⟩
     ·simp[Instr.loadAt,Instr.sureAddr,loadVar,(gn ht w).1,(gn ht w).2,hr]
     ·simp;omega
     ·intro i d hi
      have hlt:i<n:=by
       rcases JV i n with hl|hl
       ·exact hl
       ·rw[Jc] at hi;simp[Kj.2 hl] at hi
      rw[Jc,if_pos hlt,Jf] at hi;have:=(h6 _ _ hi).2;simpa [hlt] using this
    ·simp at h
   ·simp at h
 |ip cs ad val hs h2 h3 =>
   simp only[eD] at h;split at h
   ·rename_i ht;cases hcs:cs[0]? with
    |none=>simp[hcs] at h
    |some p =>
      simp[hcs] at h;subst h;obtain⟨a,b,c⟩:=h2 0 p hcs;have e0:at_ ad 0=ad:=by cases ad;simp_all [at_]
      rw[e0] at c;exact⟨val 0,by simp[Instr.loadAt,Instr.sureAddr,loadVar,(jD ht w).1,c],.pv _ _ (h3 0 p hcs)⟩
   ·rename_i n ht;split at h
    ·rename_i hn;simp at h;subst h
     have hc:∀j,j<n->w.cell? (ad.add j)=some (val j):=fun j hj=>by
      have hj':j<cs.length:=vz;rw[kV hs];exact(h2 j _ (Jm hj')).2.2
     have hr:=run_loadCells (P:=P) w ad n val hc;refine⟨.agg ((JJ n).map val).toArray,?_,.agg _ _ ?_ ?_⟩
     ·simp[Instr.loadAt,Instr.sureAddr,loadVar,(gn ht w).1,(gn ht w).2,hr]
     ·simp;omega
     ·intro i d hi
      have hlt:i<n:=by
       rcases JV i n with hl|hl
       ·exact hl
       ·rw[Jc] at hi;simp[Kj.2 hl] at hi
      rw[Jc,if_pos hlt,Jl] at hi;cases hci:cs[i]? with
      |none=>simp[hci] at hi
      |some p =>
        simp[hci] at hi;subst hi;have:=RelD.pv (β:=β) p _ (h3 i p hci);simpa [hlt] using this
    ·simp at h
   ·simp at h
 |_=>simp[eD] at h
def gY(hh:HeapRel w β hp)(h:live β hp b):b<w.heap.size:=by
 obtain⟨k,B,h1,h2,h3⟩:=h;obtain⟨C,h4,_⟩:=hh.blk k B b h1 h2 h3;grind
def ext(β:Map)(n:Nat)(b:Option Nat):Map:=⟨fun k=>if k=n then b else β.f k,β.X⟩
def cG(h:k<n):(ext β n b).f k=β.f k:=by simp[ext];omega
def rT(hB:B.live=true):
 live (ext β hp.length (some g)) (hp++[B]) b ↔ live β hp b\/b=g:=by
 constructor
 ·rintro ⟨k,B',h1,h2,h3⟩;rcases JF k hp.length with hk|hk|hk
  ·rw [Jh hk] at h1;rw[cG hk] at h3;exact .inl ⟨k,B',h1,h2,h3⟩
  ·subst hk;simp[ext] at h3;exact .inr h3.symm
  ·rw [Jk vz] at h1;rw[Ju vg] at h1;simp at h1
 ·rintro (⟨k,B',h1,h2,h3⟩|h)
  ·have hk:k < hp.length:=(Ja.1 h1).1;exact⟨k,B',by rw[Jh hk];exact h1,h2,by rw[cG hk];exact h3⟩
  ·exact⟨hp.length,B,vv,hB,by simp[ext,h]⟩
def rU(hh:HeapRel w β hp)(hB:B.live=true)(e:Evo w β hp w1 (ext β hp.length g) (hp++[B]))(hg:∀b,g=some b->(∃C:Row,w1.heap[b]?=some (.cells C.v B.ty C.m)/\B.cells.length<=C.v.size/\∀(i:Nat) (d:DV),B.cells[i]?=some d->d.one=true/\RelD w β hp d (C.v.getD i undef))/\¬live β hp b/\¬β.X b)(hn:g=none->B.cells=[])(hold:∀b,live β hp b->w1.heap[b]?=w.heap[b]?):HeapRel w1 (ext β hp.length g) (hp++[B]):=by
 have lt_of:∀{k:Nat} {D:Blk},(hp++[B])[k]?=some D->(k<hp.length/\hp[k]?=some D/\(ext β hp.length g).f k=β.f k)\/(k=hp.length/\D=B/\(ext β hp.length g).f k=g):=fun {k D} h=>by
  rcases JF k hp.length with hlt|heq|hgt
  ·rw [Jh hlt] at h;exact .inl ⟨hlt,h,cG hlt⟩
  ·subst heq;simp at h;exact .inr ⟨rfl,h.symm,by simp[ext]⟩
  ·rw [Jk vz,Ju vg] at h;simp at h
 refine⟨fun k D b hk hD hb=>?_,fun k D hk hD hb=>?_,fun j k D D' b hj hk hD hD' h1 h2=>?_,fun k D b hk hD hb=>?_,fun b hb=>Jg (hh.bound b hb) e.size⟩
 ·rcases lt_of hk with ⟨_,hk',he⟩|⟨rfl,rfl,he⟩
  ·rw [he] at hb;obtain⟨C,h1,h2,h3⟩:=hh.blk k D b hk' hD hb;exact⟨C,by rw[hold b ⟨k,D,hk',hD,hb⟩];exact h1,h2,fun i d hd=>⟨(h3 i d hd).1,(h3 i d hd).2.mono e⟩⟩
  ·rw [he] at hb;obtain⟨⟨C,h1,h2,h3⟩,_⟩:=hg b hb;exact⟨C,h1,h2,fun i d hd=>⟨(h3 i d hd).1,(h3 i d hd).2.mono e⟩⟩
 ·rcases lt_of hk with ⟨_,hk',he⟩|⟨rfl,rfl,he⟩
  ·exact hh.none k D hk' hD (by rw[<-he];exact hb)
  ·exact hn (by rw[<-he];exact hb)
 ·rcases lt_of hj with ⟨_,hj',hje⟩|⟨rfl,rfl,hje⟩<;>rcases lt_of hk with ⟨_,hk',hke⟩|⟨rfl,rfl,hke⟩
  ·exact hh.inj j k D D' b hj' hk' hD hD' (by rw[<-hje];exact h1) (by rw[<-hke];exact h2)
  ·exact absurd ⟨j,D,hj',hD,by rw[<-hje];exact h1⟩ (hg b (by rw[<-hke];exact h2)).2.1
  ·exact absurd ⟨k,D',hk',hD',by rw[<-hke];exact h2⟩ (hg b (by rw[<-hje];exact h1)).2.1
  ·rfl
 ·rcases lt_of hk with ⟨_,hk',he⟩|⟨rfl,rfl,he⟩
  ·exact hh.avoid k D b hk' hD (by rw[<-he];exact hb)
  ·exact(hg b (by rw[<-he];exact hb)).2.2
def rV(hh:HeapRel w β hp)(T:TypeId)(C:Array Value)(cs:List DV)(ho:w1.os=w.os)(ht:w1.tape=w.tape)(hou:w1.output=w.output)(hheap:w1.heap=w.heap.push (.cells C T))(hl:cs.length<=C.size)(hc:∀(i:Nat) (d:DV),cs[i]?=some d->d.one=true/\RelD w β hp d (C.getD i undef)):
 Evo w β hp w1 (ext β hp.length (some w.heap.size)) (hp++[⟨T,true,cs⟩])/\HeapRel w1 (ext β hp.length (some w.heap.size)) (hp++[⟨T,true,cs⟩]):=by
 have hold:∀b,b<w.heap.size->w1.heap[b]?=w.heap[b]?:=fun b hb=>by rw[hheap,Array.getElem?_push,if_neg vz]
 have hnew:w1.heap[w.heap.size]?=some (.cells C T):=by rw[hheap];simp
 have e:Evo w β hp w1 (ext β hp.length (some w.heap.size)) (hp++[⟨T,true,cs⟩]):=by
  refine⟨ho,ht,hou,by rw[hheap];simp,vv,fun k hk=>cG hk,fun b hb _=>hold b hb,fun b C' T' m h=>⟨C',m,?_,rfl⟩,fun b hb h=>?_,rfl⟩
  ·rw[hold b (JB.1 h).1];exact h
  ·rcases (rT rfl).1 h with h|h
   ·exact h
   ·omega
 refine⟨e,rU hh rfl e (fun b hb=>?_) vv (fun b hb=>hold b (gY hh hb))⟩;simp at hb;subst hb;exact⟨⟨⟨C,(0,0),Jd _⟩,hnew,hl,hc⟩,fun h=>by have:=gY hh h;omega,fun h=>by have:=hh.bound _ h;omega⟩
def Rh(hk:hp[k]?=some B)(hl:B'.live=B.live)(b:Nat):live β (hp.set k B') b ↔ live β hp b:=by
 have hlt:k<hp.length:=(Ja.1 hk).1;constructor
 ·rintro ⟨j,D,h1,h2,h3⟩;by_cases hj:j=k
  ·subst hj;rw[Jn hlt] at h1;simp at h1;subst h1;exact⟨j,B,hk,hl▸h2,h3⟩
  ·rw [Jv vz] at h1;exact⟨j,D,h1,h2,h3⟩
 ·rintro ⟨j,D,h1,h2,h3⟩;by_cases hj:j=k
  ·subst hj;rw[hk] at h1;simp at h1;subst h1;exact⟨j,B',by rw[Jn hlt],hl.trans h2,h3⟩
  ·exact⟨j,D,by rw[Jv vz];exact h1,h2,h3⟩
def Dj(hh:HeapRel w β hp)(hk:hp[k]?=some B)(hB:B.live=true)(hb0:β.f k=some b0)(hm0:m0.2<=m0.1)(hC:w.heap[b0]?=some (.cells C B.ty m0))(hs:C'.size=C.size)(cs:List DV)(ho:w1.os=w.os)(ht:w1.tape=w.tape)(hou:w1.output=w.output)(hsz:w1.heap.size=w.heap.size)(hnew:w1.heap[b0]?=some (.cells C' B.ty m0))(hold:∀b,b≠b0->w1.heap[b]?=w.heap[b]?)(hl:cs.length<=C'.size)(hc:∀(i:Nat) (d:DV),cs[i]?=some d->d.one=true/\RelD w β hp d (C'.getD i undef)):
 Evo w β hp w1 β (hp.set k { B with cells:=cs })/\HeapRel w1 β (hp.set k { B with cells:=cs }):=by
 have hlt:k<hp.length:=(Ja.1 hk).1;have him:live β hp b0:=⟨k,B,hk,hB,hb0⟩
 have e:Evo w β hp w1 β (hp.set k { B with cells:=cs }):=by
  refine⟨ho,ht,hou,vz,vv,fun _ _=>rfl,fun b _ hb=>hold b (fun h=>hb (h▸him)),fun b D T m h=>?_,fun b _ h=>(Rh (B':={ B with cells:=cs }) hk rfl b).1 h,rfl⟩;by_cases hb:b=b0
  ·subst hb;rw[hC] at h;simp at h;obtain⟨rfl,rfl,rfl⟩:=h;exact⟨C',_,hnew,hs⟩
  ·exact⟨D,m,by rw[hold b hb];exact h,rfl⟩
 have back:∀{j:Nat} {D:Blk},(hp.set k { B with cells:=cs })[j]?=some D->(j=k/\D={ B with cells:=cs })\/(j≠k/\hp[j]?=some D):=fun {j D} hj=>by
  by_cases hjk:j=k
  ·subst hjk;rw[Jn hlt] at hj;simp at hj;exact .inl ⟨rfl,hj.symm⟩
  ·rw[Jv vz] at hj;exact .inr ⟨hjk,hj⟩
 have back':∀{j:Nat} {D:Blk},(hp.set k { B with cells:=cs })[j]?=some D->D.live=true->∃D0,hp[j]?=some D0/\D0.live=true:=fun {j D} hj hD=>by
  rcases back hj with⟨rfl,rfl⟩|⟨_,h⟩
  ·exact⟨B,hk,hB⟩
  ·exact⟨D,h,hD⟩
 refine⟨e,⟨fun j D b hj hD hb=>?_,fun j D hj hD hb=>?_,fun i j D D' b hi hj hD hD' h1 h2=>?_,fun j D b hj hD hb=>?_,fun b hb=>Jg (hh.bound b hb) e.size⟩⟩
 ·rcases back hj with ⟨rfl,rfl⟩|⟨hjk,h⟩
  ·rw [hb0] at hb;simp at hb;subst hb;exact⟨⟨C',m0,hm0⟩,hnew,hl,fun i d hd=>⟨(hc i d hd).1,(hc i d hd).2.mono e⟩⟩
  ·obtain ⟨C1,h1,h2,h3⟩:=hh.blk j D b h hD hb;have hne:b≠b0:=fun he=>hjk (hh.inj j k D B b h hk hD hB hb (he▸hb0));exact⟨C1,by rw[hold _ hne];exact h1,h2,fun i d hd=>⟨(h3 i d hd).1,(h3 i d hd).2.mono e⟩⟩
 ·rcases back hj with ⟨rfl,rfl⟩|⟨hjk,h⟩
  ·rw[hb0] at hb;simp at hb
  ·exact hh.none j D h hD hb
 ·obtain ⟨D0,g1,g2⟩:=back' hi hD;obtain⟨D1,g3,g4⟩:=back' hj hD';exact hh.inj i j D0 D1 b g1 g3 g2 g4 h1 h2
 ·obtain ⟨D0,g1,g2⟩:=back' hj hD;exact hh.avoid j D0 b g1 g2 hb
def Qm(hp:Qb)(k:Nat)(cs:List DV):Qb:=
 match hp[k]? with
 |some B=>hp.set k { B with cells:=cs }
 |none=>hp
def Qp:List DV->Bool
 |[]=>true
 |d::r=>d.one&&Qp r
def mE (h:Qp ds = true):∀(i:Nat) (d:DV),ds[i]? = some d->d.one = true:=by
 induction ds with
 |nil=>intro i d h;simp at h
 |cons x r ih =>
   simp only[Qp,Jw] at h;intro i d hd;cases i with
   |zero=>simp at hd;subst hd;exact h.1
   |succ i=>exact ih h.2 i d (by simpa using hd)
def splice(cs:List DV)(off:Nat)(ds:List DV):List DV:=cs.take off++ds++cs.drop (off+ds.length)
def jE (P:Program) (hp:Qb) (T:TypeId):DV->DV->Option Qb
 |.ptr k off,d =>
   match Qc hp k,vt P T with
   |some cs,some none=>if off<cs.length/\d.one=true then some (Qm hp k (cs.set off d)) else none
   |some cs,some (some n) =>
     match d with
     |.agg ds=>if off+n<=cs.length/\ds.length=n/\Qp ds=true then some (Qm hp k (splice cs off ds)) else none
     |_=>none
   |_,_=>none
 |_,_=>none
def Dk(h:off<=cs.length)(i:Nat):
 (splice cs off ds)[i]?=if i<off then cs[i]? else if i<off+ds.length then ds[i-off]? else cs[i]?:=by
 unfold splice;grind
def wr(cur:Array Value)(k:Nat):List Value->Array Value
 |[]=>cur
 |v::r=>wr (cur.setIfInBounds k v) (k+1) r
def Dl:∀(vs:List Value) (cur:Array Value) (k j:Nat),k + vs.length<=cur.size->(wr cur k vs)[j]? = if k<=j/\j < k + vs.length then vs[j - k]? else cur[j]?
 |[],cur,k,j,_=>by rw[wr,if_neg (by simp only[JW];omega)]
 |v :: r,cur,k,j,h=>by
   simp only[Js] at h |-;rw[wr,Dl r _ _ _ vg];by_cases h1:k+1<=j/\j<k+1+r.length
   ·rw[if_pos h1,if_pos vz,show j-k=(j-(k+1))+1 by omega,JQ]
   ·rw [if_neg h1,JI];by_cases h2:k=j
    ·subst h2;rw[if_pos rfl,if_pos vz,if_pos vz,Kk];rfl
    ·rw[if_neg h2,if_neg vz]
def Ri(vs:List Value)(cur:Array Value)(k:Nat)(h:k+vs.length<=cur.size):wr cur k vs=(cur.toList.take k++vs++cur.toList.drop (k+vs.length)).toArray:=by
 apply Array.ext_getElem?
 intro j;have hA:∀A:List Value,A.toArray[j]?=A[j]?:=fun A=>by simp
 rw[Dl vs cur k j h,Jz,hA (cur.toList.take k++(vs++cur.toList.drop (k+vs.length)))];grind
def Dm (P:Program) (g o:Nat) (t:TypeId) (m:Nat × Nat):∀(vs:List Value) (i:Nat) (cur:Array Value) (w:World),w.heap[g]? = some (.cells cur t m)->(m.2<=m.1\/cur.size<=m.1)->o + i + vs.length<=cur.size->(∀v ∈ vs,v.oneCell' = true) ->
 (storeCells ⟨g,o,none⟩ vs i).run P w=.ok () (w.setRow g (wr cur (o+i) vs))
 |[],i,cur,w,hg,_,_,_=>by rw[wr,setRow_self w g cur t m hg];rfl
 |v :: r,i,cur,w,hg,hm,hl,h1=>by
   simp only[Js] at hl
   have free:w.frozen? ⟨g,o+i,none⟩=false:=by
    obtain⟨lo,up⟩:=m;dsimp only at hm;have:¬(lo<=o+i/\o+i<up):=vz;simp only[World.frozen?,hg];simpa using this
   have one:(store ((⟨g,o,none⟩:Addr).add i) v).run P w=.ok () (w.setRow g (cur.setIfInBounds (o+i) v)):=by
    rw[gq,run_store P w _ v _ (h1 v (List.mem_cons_self ..)),iQ hg vz];simp only[free];rw[<-setCell_eq_setRow w g (o+i) cur t m v hg];rfl
   have rest:=Dm P g o t m r (i+1) (cur.setIfInBounds (o+i) v) (w.setRow g (cur.setIfInBounds (o+i) v)) (setRow_heap w g cur _ t _ hg) (by simpa using hm) vg (fun x hx=>h1 x (List.mem_cons_of_mem _ hx));rw[storeCells,Sem.run_bind,one,Result.andThen_ok,rest,setRow_setRow,wr,JA]
def Dn(P:Program)(g o:Nat)(t:TypeId)(m:Nat×Nat)(vs:List Value)(i:Nat)(cur:Array Value)(w:World)(hg:w.heap[g]?=some (.cells cur t m))(hm:m.2<=m.1)(hl:o+i+vs.length<=cur.size)(h1:∀v∈vs,v.oneCell'=true) :
 (storeCells ⟨g,o,none⟩ vs i).run P w=.ok () (w.setRow g (cur.toList.take (o+i)++vs++cur.toList.drop (o+i+vs.length)).toArray):=by
 rw[Dm P g o t m vs i cur w hg (.inl hm) hl h1,Ri vs cur _ hl]
def vF{vs:Array Value}(hh:HeapRel w β hp)(hb:Qc hp k=some cs)(hb0:β.f k=some b0)(hlen:ds.length=vs.size)(hd:∀(i:Nat) (d:DV),ds[i]?=some d->RelD w β hp d (vs.getD i undef))(ho:Qp ds=true)(hfit:off<=cs.length)(hC0:w.heap[b0]?=some (.cells C0 T0 m00))(hroom:off+ds.length<=C0.size):
 ∃w',(storeCells ⟨b0,off,none⟩ vs.toList).run P w=.ok () w'/\Evo w β hp w' β (Qm hp k (splice cs off ds))/\HeapRel w' β (Qm hp k (splice cs off ds)):=by
 obtain⟨B,⟨C,m0,hm0⟩,h1,h2,h3,h4,h5,h6⟩:=gu hh hb hb0;dsimp only at h4 h5 h6;obtain rfl:C=C0:=by rw[hC0] at h4;simp at h4;exact h4.1.symm
 have hone:∀v∈vs.toList,v.oneCell'=true:=by
  intro v hv;obtain⟨i,hi,rfl⟩:=J0 hv;have hi':i<ds.length:=by simpa [hlen] using hi
  have:=(hd i ds[i] (Jm hi')).one (mE ho i _ (Jm hi'));have hi2:i<vs.size:=by simpa using hi
  simpa [hi2] using this
 have hr:=Dn P b0 off B.ty m0 vs.toList 0 C w h4 hm0 vg hone;simp only[JN] at hr;have hsz:(C.toList.take off++vs.toList++C.toList.drop (off+vs.toList.length)).toArray.size=C.size:=vg;have hspl:splice cs off ds=splice cs off ds:=rfl;refine⟨_,hr,?_⟩;unfold Qm;rw[h1];refine Dj hh h1 h2 hb0 hm0 h4 hsz (splice cs off ds) rfl rfl rfl (by simp[World.setRow]) (setRow_heap w _ _ _ _ _ h4) (fun b hb=>setRow_other w _ b _ hb) ?_ ?_
 ·rw[hsz];simp[splice];omega
 ·intro i d hi;rw[Dk hfit] at hi
  have hget:(C.toList.take off++vs.toList++C.toList.drop (off+vs.toList.length)).toArray.getD i undef =
   if i<off then C.getD i undef else if i<off+vs.size then vs.getD (i-off) undef else C.getD i undef:=by
   have hl:(C.toList.take off).length=off:=vg;simp only[Jb,JG,Jz];rw[Ji,hl];split
   ·rename_i hio;rw[Jc,if_pos hio];simp
   ·rw [Ji];rename_i hio;by_cases hv:i-off<vs.toList.length
    ·rw[if_pos hv,if_pos (by simp at hv;omega)];simp
    ·rw [if_neg hv,if_neg (by simp at hv;omega),Jf];have:off+vs.toList.length+(i-off-vs.toList.length)=i:=by simp at hv |-;omega
     rw[this];simp
  rw[hget];split
  ·rename_i hio;rw[if_pos hio] at hi;exact h6 i d hi
  ·rename_i hio;rw[if_neg hio] at hi;rw[<-hlen];split
   ·rename_i hio2;rw[if_pos hio2] at hi;exact⟨mE ho _ _ hi,hd _ _ hi⟩
   ·rename_i hio2;rw[if_neg hio2] at hi;exact h6 i d hi
def oI{vs:Array Value}(hh:HeapRel w β hp)(hb:Qc hp k=some cs)(hb0:β.f k=some b0)(hlen:ds.length=vs.size)(hd:∀(i:Nat) (d:DV),ds[i]?=some d->RelD w β hp d (vs.getD i undef))(ho:Qp ds=true)(hfit:off+ds.length<=cs.length):
 ∃w',(storeCells ⟨b0,off,none⟩ vs.toList).run P w=.ok () w'/\Evo w β hp w' β (Qm hp k (splice cs off ds))/\HeapRel w' β (Qm hp k (splice cs off ds)):=by
 obtain⟨B,⟨C,m0,hm0⟩,h1,h2,h3,h4,h5,h6⟩:=gu hh hb hb0;exact vF hh hb hb0 hlen hd ho vz h4 (Jt hfit h5)
def Rj (hh:HeapRel w β hp) (hd:RelD w β hp d v) (hx:RelD w β hp x u) (h:jE P hp T d x = some hp'):∃w',(Instr.storeAt T v u).run P w = .ok () w'/\Evo w β hp w' β hp'/\HeapRel w' β hp':=by
 cases hd with
 |ptr k off b0 hk hm =>
   simp only[jE] at h;split at h
   ·rename_i cs hb ht;split at h
    ·rename_i hc;simp at h;subst h;have hone:=hx.one hc.2;have hcells:u.cells=#[u]:=by cases u<;>first|rfl|simp[Value.oneCell'] at hone
     have hs:=oI (P:=P) (ds:=[x]) (vs:=#[u]) hh hb hm rfl (fun i d hd=>by cases i<;>simp at hd;subst hd;exact hx) (by simp[Qp,hc.2]) (off:=off) vg
     have he:splice cs off [x]=cs.set off x:=by
      simp only[splice,JX,Jz,List.singleton_append];exact(List.set_eq_take_append_cons_drop.trans (if_pos hc.1)).symm
     rw[he] at hs;obtain⟨w',h1,h2,h3⟩:=hs;refine⟨w',?_,h2,h3⟩;simp[Instr.storeAt,Instr.sureAddr,storeVar,hcells,(jD ht w).2];simpa using h1
    ·simp at h
   ·rename_i cs n hb ht;split at h
    ·rename_i ds;split at h
     ·rename_i hc;simp at h;subst h;cases hx with
      |agg _ vs hl hds =>
        obtain⟨w',h1,h2,h3⟩:=oI (P:=P) hh hb hm hl hds hc.2.2 (off:=off) vz;refine⟨w',?_,h2,h3⟩;have hvs:vs.size=n:=vz;simp[Instr.storeAt,Instr.sureAddr,storeVar,Value.cells,(gn ht w).2,hvs];exact h1
     ·simp at h
    ·simp at h
   ·simp at h
 |_=>simp[jE] at h
end Go.V
namespace Go.V
def RelL(w:World)(β:Map)(hp:Qb)(ds:List DV)(vs:Array Value):Prop:=
 ds.length=vs.size/\∀(i:Nat) (d:DV),ds[i]?=some d->RelD w β hp d (vs.getD i undef)
def fa:DV->List DV
 |.agg cs=>cs
 |d=>[d]
def Do (h:RelD w β hp d v) (ho:Qp (fa d) = true):RelL w β hp (fa d) v.cells:=by
 by_cases h1:d.one=true
 ·have hv:v.cells = #[v]:=by
   have:=h.one h1;cases v<;>first|rfl|simp[Value.oneCell'] at this
  have hd:fa d=[d]:=by cases d<;>first|rfl|simp[DV.one] at h1
  rw[hd,hv];refine⟨rfl,fun i x hx=>?_⟩;cases i with
  |zero=>simp at hx;subst hx;simpa using h
  |succ i=>simp at hx
 ·cases h with
  |agg ds vs hl hd=>exact⟨hl,hd⟩
  |_=>simp[fa,Qp,DV.one] at ho h1
def RelL.one(h:RelL w β hp ds vs)(ho:Qp ds=true):∀(i:Nat) (d:DV),ds[i]?=some d->d.one=true/\RelD w β hp d (vs.getD i undef):=
 fun i d hd=>⟨mE ho i d hd,h.2 i d hd⟩
def zcs:List Value->List DV
 |[.pointer none,.slice none 0 0]=>[.pv (.lit (.pointer none)),.pv (.lit (.slice none 0 0))]
 |l=>l.map iP
def Rk (w:World) (β:Map) (hp:Qb) (vs:Array Value):RelL w β hp (zcs vs.toList) vs:=by
 unfold zcs;split
 ·rename_i h;obtain⟨l⟩:=vs;simp at h;subst h;refine⟨rfl,fun j d hd=>?_⟩;match j,hd with
  |0,hd=>simp at hd;subst hd;exact .pv _ _ (.lit _ rfl)
  |1,hd=>simp at hd;subst hd;exact .pv _ _ (.lit _ rfl)
 ·refine ⟨vv,fun j d hd=>?_⟩;rw[Jl] at hd;cases hj:vs.toList[j]? with
  |none=>simp[hj] at hd
  |some v =>
    simp[hj] at hd;subst hd;have:vs.getD j undef=v:=by simp at hj;simp[hj]
    rw[this];exact Dh w β hp v
def QO(P:Program)(T:TypeId):Option (List DV):=((P.info? T).bind (·.zero)).map fun z=>zcs z.cells.toList
def gZ (h:QO P T = some cs) (w:World) (β:Map) (hp:Qb):
 ∃z,(∀w,(zeroValue T).run P w=.ok z w)/\(∃i,P.info? T=some i/\i.zero=some z)/\RelL w β hp cs z.cells:=by
 unfold QO at h;cases hi:P.info? T with
 |none=>simp[hi] at h
 |some i =>
   cases hz:i.zero with
   |none=>simp[hi,hz] at h
   |some z =>
     simp[hi,hz] at h;subst h;exact⟨z,fun w=>by simp[zeroValue,typeInfo,hi,hz],⟨i,rfl,hz⟩,Rk w β hp _⟩
def kW(P:Program)(hp:Qb)(T:TypeId):Option (DV×Qb):=
 match QO P T with
 |some cs=>if Qp cs=true then some (.ptr hp.length 0,hp++[⟨T,true,cs⟩]) else none
 |none=>none
def mF(hp:Qb)(T:TypeId)(d:DV):Option (DV×Qb):=
 if Qp (fa d)=true then some (.ptr hp.length 0,hp++[⟨T,true,fa d⟩]) else none
def Does(P:Program)(w:World)(β:Map)(hp:Qb)(m:Sem Value)(d:DV)(hp':Qb):Prop:=
 ∃v w' β',m.run P w=.ok v w'/\Evo w β hp w' β' hp'/\HeapRel w' β' hp'/\RelD w' β' hp' d v
def Dp(hh:HeapRel w β hp)(T:TypeId)(h:RelL w β hp ds C)(ho:Qp ds=true):
 Does P w β hp (do pure (.pointer (some (<-newRow T C)))) (.ptr hp.length 0) (hp++[⟨T,true,ds⟩]):=by
 obtain⟨e,hh'⟩:=rV (w1:=w.alloc (.cells C T)) hh T C ds rfl rfl rfl rfl (by rw[h.1];exact Jd _) (h.one ho);refine⟨.pointer (some ⟨w.heap.size,0,none⟩),w.alloc (.cells C T),_,by simp[newRow],e,hh',?_⟩;have:=RelD.ptr (w:=w.alloc (.cells C T)) (β:=ext β hp.length (some w.heap.size)) (hp:=hp++[⟨T,true,ds⟩]) hp.length 0 w.heap.size vv (by simp[ext]);exact this
def Rl(hh:HeapRel w β hp)(h:kW P hp T=some (d,hp')):
 Does P w β hp (Instr.alloc T true (.tuple #[])) d hp':=by
 unfold kW at h;split at h
 ·rename_i cs hz;split at h
  ·rename_i ho;simp at h;obtain⟨rfl,rfl⟩:=h;obtain⟨z,hz1,_,hz2⟩:=gZ hz w β hp;obtain⟨v,w',β',h1,h2⟩:=Dp (P:=P) hh T hz2 ho;refine⟨v,w',β',?_,h2⟩;simpa [Instr.alloc,hz1,newVar] using h1
  ·simp at h
 ·simp at h
def Ro(hh:HeapRel w β hp)(hx:RelD w β hp x v)(h:mF hp T x=some (d,hp')):
 Does P w β hp (Instr.box T v) d hp':=by
 unfold mF at h;split at h
 ·rename_i ho;simp at h;obtain⟨rfl,rfl⟩:=h;obtain⟨u,w',β',h1,h2⟩:=Dp (P:=P) hh T (Do hx ho) ho;exact⟨u,w',β',by simpa [Instr.box,newVar] using h1,h2⟩
 ·simp at h
def Qh(hh:HeapRel w β hp)(h:m.run P w=.ok v w)(hd:RelD w β hp d v):Does P w β hp m d hp:=
 ⟨v,w,β,h,Evo.refl w β hp,hh,hd⟩
def Qg (P:Program) (T:TypeId) (f:Nat):Option (TypeId × Nat × Nat) :=
 match P.underlying T with
 |some (.struct fs) =>
   match fs[f]? with
   |some f=>match P.info? f.type with
     |some i=>some (f.type,f.offset,i.size)
     |none=>none
   |none=>none
 |_=>none
def g8 (P:Program) (T:TypeId) (f:Nat):DV->Option DV
 |.ptr k off=>match Qg P T f with
   |some (_,o,s)=>if s=0 then none else some (.ptr k (off+o))
   |none=>none
 |.ip cs=>match Qg P T f with
   |some (_,o,s)=>if s=0 then none else some (.ip (cs.drop o))
   |none=>none
 |_=>none
def Dq(h:Qg P T f=some (t,o,s))(hs:s≠0)(ad:Addr)(w:World):
 (Instr.fieldAt T (.pointer (some ad)) f).run P w=.ok (.pointer (some (ad.add o))) w:=by
 unfold Qg at h;split at h
 ·rename_i fs hu;split at h
  ·rename_i fl hf;split at h
   ·rename_i i hi;simp at h;obtain⟨rfl,rfl,rfl⟩:=h;simp[Instr.fieldAt,run_underlying hu,hf,Instr.sureAddr,fieldPlace,sizeOf,typeInfo,hi,hs]
   ·simp at h
  ·simp at h
 ·simp at h
def Dr (o:Nat) (h:RelD w β hp (.ip cs) (.pointer (some ad))):RelD w β hp (.ip (cs.drop o)) (.pointer (some (ad.add o))):=by
 cases h with
 |ip _ _ val hs h2 h3 =>
   rw[kV hs];refine .ip _ _ (fun j=>val (o+j)) rfl (fun j d hd=>?_) (fun j d hd=>?_)
   ·rw [Jf] at hd;have:=h2 _ _ hd;simpa [at_,JA] using this
   ·rw [Jf] at hd;exact h3 _ _ hd
def Rp (hh:HeapRel w β hp) (hx:RelD w β hp x v) (h:g8 P T f x = some d):
 Does P w β hp (Instr.fieldAt T v f) d hp:=by
 cases hx with
 |ptr k off b hk hm =>
   simp only[g8] at h;split at h
   ·rename_i t o s hf;split at h
    ·simp at h
    ·rename_i hs;simp at h;subst h;refine Qh hh (Dq hf hs _ w) ?_;rw[gq];exact .ptr k _ b hk hm
   ·simp at h
 |ip cs ad val hs h2 h3 =>
   simp only[g8] at h;split at h
   ·rename_i t o s hf;split at h
    ·simp at h
    ·rename_i hs0;simp at h;subst h;exact Qh hh (Dq hf hs0 _ w) (Dr o (.ip cs ad val hs h2 h3))
   ·simp at h
 |_=>simp[g8] at h
def QL (P:Program) (T:TypeId):Option (Option Nat × TypeId × Nat) :=
 match P.underlying T with
 |some (.slice e)=>match P.info? e with
   |some i=>some (none,e,i.size)
   |none=>none
 |some (.array n e)=>match P.info? e with
   |some i=>some (some n,e,i.size)
   |none=>none
 |_=>none
def cX:DV->Option (List (List PV))
 |.pv (.sl xs)=>some xs
 |.pv (.slc xs)=>some xs
 |_=>none
def g9 (P:Program) (T:TypeId) (x ix:DV):Option DV :=
 match ix with
 |.pv (.lit (.int _ i)) =>
   match QL P T with
   |some (none,_,sz) =>
     match x with
     |.own k sz' off len=>if sz'=sz/\0<=i/\i<len then some (.ptr k (off+i.toNat*sz)) else none
     |x => match cX x with
       |some xs=>match xs[i.toNat]? with
         |some c=>if 0<=i/\c.length=sz/\0<sz then some (.ip c) else none
         |none=>none
       |none=>none
   |some (some n,_,sz) =>
     match x with
     |.ptr k off=>if 0<=i/\i<n then some (.ptr k (off+i.toNat*sz)) else none
     |.ip cs=>if 0<=i/\i<n then some (.ip (cs.drop (i.toNat*sz))) else none
     |_=>none
   |none=>none
 |_=>none
def Qq(h:QL P T=some (none,e,sz)):P.underlying T=some (.slice e)/\∃i,P.info? e=some i/\i.size=sz:=by
 unfold QL at h;grind
def vG(h:QL P T=some (some n,e,sz)):P.underlying T=some (.array n e)/\∃i,P.info? e=some i/\i.size=sz:=by
 unfold QL at h;grind
def Ds(h:QL P T=some (none,e,sz))(ad:Addr)(len cap:Nat)(k:IntKind)(i:Int)(h0:0<=i)(h1:i<len)(w:World):
 (Instr.indexAt T (.slice (some ad) len cap) (.int k i)).run P w=.ok (.pointer (some (ad.add (i.toNat*sz)))) w:=by
 obtain⟨hu,i',hi,rfl⟩:=Qq h;simp[Instr.indexAt,asIntOf,run_underlying hu,h0,h1,sizeOf,typeInfo,hi]
def Du(h:QL P T=some (some n,e,sz))(ad:Addr)(k:IntKind)(i:Int)(h0:0<=i)(h1:i<n)(w:World):
 (Instr.indexAt T (.pointer (some ad)) (.int k i)).run P w=.ok (.pointer (some (ad.add (i.toNat*sz)))) w:=by
 obtain⟨hu,i',hi,rfl⟩:=vG h;simp[Instr.indexAt,asIntOf,run_underlying hu,Instr.sureAddr,h0,h1,sizeOf,typeInfo,hi]
def vH(h:RelD w β hp (.pv (.lit u)) v):v=u:=by
 cases h with
 |pv _ _ h=>cases h;rfl
def mG (hx:RelD w β hp x v) (h:cX x = some xs):
 ∃(a:Option Addr) (cap sz:Nat) (val:Nat->Nat->Value),v = .slice a xs.length cap/\xs.length<=cap/\cap<=maxLen/\(∀(i:Nat) (c:List PV),xs[i]? = some c->c.length = sz)/\(∀ad,a = some ad->0 < cap->ad.spot = none) /\
   (∀(i j:Nat) (c:List PV) (d:PV),xs[i]?=some c->c[j]?=some d->∃ad,a=some ad/\ad.block<w.heap.size/\¬img β hp ad.block/\w.cell? (at_ ad (i*sz+j))=some (val i j)) /\
   (∀(i j:Nat) (c:List PV) (d:PV),xs[i]?=some c->c[j]?=some d->RelP w (img β hp) d (val i j))/\(x=.pv (.slc xs)->cap=xs.length):=by
 cases hx with
 |pv p v hp' =>
   cases hp' with
   |sl ys a cap sz val h1 h2 h3 h4 h5 h6 =>
     simp[cX] at h;subst h;exact⟨a,cap,sz,val,rfl,h1,h2,h3,h4,h5,h6,vv⟩
   |slc ys a sz val h2 h3 h4 h5 h6 =>
     simp[cX] at h;subst h;exact⟨a,_,sz,val,rfl,Jd _,h2,h3,h4,h5,h6,vv⟩
   |_=>simp[cX] at h
 |_=>simp[cX] at h
def Rq (hh:HeapRel w β hp) (hx:RelD w β hp x v) (hi:RelD w β hp ix u) (h:g9 P T x ix = some d):
 Does P w β hp (Instr.indexAt T v u) d hp:=by
 unfold g9 at h;split at h
 ·rename_i ki i;obtain rfl:=vH hi;split at h
  ·rename_i e sz he;split at h
   ·rename_i k sz' off len;split at h
    ·rename_i hc;simp at h;subst h;obtain⟨rfl,h0,h1⟩:=hc;cases hx with
     |own _ _ _ _ cap b C T' m hk hm _ _ _ _ =>
       refine Qh hh (Ds he _ len cap ki i h0 h1 w) ?_;rw[gq];exact .ptr k _ b hk hm
     |own0=>simp at h1;omega
    ·simp at h
   ·rename_i hno;split at h
    ·rename_i xs hs;split at h
     ·rename_i c hc;split at h
      ·rename_i hcond;simp at h;subst h;obtain⟨h0,hl,hpos⟩:=hcond;obtain⟨a,cap,sz2,val,rfl,h1,h2,h3,h4,h5,h6,_⟩:=mG hx hs;have hsz:sz2=sz:=by rw[<-h3 _ _ hc];exact hl
       subst hsz;have hlt:i.toNat<xs.length:=(Ja.1 hc).1;have h00:c[0]?=some c[0]:=Jm vz;obtain⟨ad,rfl,_⟩:=h5 _ _ _ _ hc h00;refine Qh hh (Ds he ad _ cap ki i h0 vz w) ?_;rw[kV (h4 ad rfl vz)];refine .ip c _ (fun j=>val i.toNat j) rfl (fun j d hd=>?_) (fun j d hd=>h6 _ _ _ _ hc hd);obtain⟨ad',e',x1,x2,x3⟩:=h5 _ _ _ _ hc hd;simp at e';subst e';refine⟨x1,x2,?_⟩;simpa [at_,JA] using x3
      ·simp at h
     ·simp at h
    ·simp at h
  ·rename_i n e sz he;split at h
   ·rename_i k off;split at h
    ·rename_i hc;simp at h;subst h;cases hx with
     |ptr _ _ b hk hm =>
       refine Qh hh (Du he _ ki i hc.1 hc.2 w) ?_;rw[gq];exact .ptr k _ b hk hm
    ·simp at h
   ·rename_i cs;split at h
    ·rename_i hc;simp at h;subst h;cases hx with
     |ip _ ad val hs h2 h3 =>
       exact Qh hh (Du he _ ki i hc.1 hc.2 w) (Dr _ (.ip cs ad val hs h2 h3))
    ·simp at h
   ·simp at h
  ·simp at h
 ·simp at h
def hE(P:Program)(T:TypeId)(cs:List DV)(off:Nat):Option DV:=
 match vt P T with
 |some none=>cs[off]?
 |some (some n)=>if off+n<=cs.length then some (.agg ((cs.drop off).take n)) else none
 |none=>none
def Dw(h:RelL w β hp cs vs)(hd:hE P T cs off=some d):
 ∃v,(part T vs off).run P w=.ok v w/\RelD w β hp d v:=by
 unfold hE at hd;split at hd
 ·rename_i ht;have hlt:off<vs.size:=by rw[<-h.1];exact(Ja.1 hd).1
  refine⟨vs.getD off undef,?_,h.2 _ _ hd⟩;simp[part,(jD ht w).1,hlt]
 ·rename_i n ht;split at hd
  ·rename_i hn;simp at hd;subst hd;refine⟨.agg (vs.extract off (off+n)),by simp[part,(gn ht w).1,(gn ht w).2],.agg _ _ ?_ ?_⟩
   ·have:=h.1;simp;omega
   ·intro i d hi
    have hlt:i<n:=by
     rcases JV i n with hl|hl
     ·exact hl
     ·rw[Jc] at hi;simp[Kj.2 hl] at hi
    rw[Jc,if_pos hlt,Jf] at hi;have h2:=h.2 _ _ hi
    have e:(vs.extract off (off+n)).getD i undef=vs.getD (off+i) undef:=by
     simp only[Jb,JU];rw[if_pos (by have:=h.1;omega)]
    rw[e];exact h2
  ·simp at hd
 ·simp at hd
def kX (P:Program) (T:TypeId) (f:Nat):DV->Option DV
 |.agg cs=>match Qg P T f with
   |some (t,o,_)=>hE P t cs o
   |none=>none
 |_=>none
def Rr (hh:HeapRel w β hp) (hx:RelD w β hp x v) (h:kX P T f x = some d):
 Does P w β hp (Instr.field T v f) d hp:=by
 cases hx with
 |agg cs vs hl hd =>
   simp only[kX] at h;split at h
   ·rename_i t o s hf;obtain⟨u,h1,h2⟩:=Dw (P:=P) ⟨hl,hd⟩ h;refine Qh hh ?_ h2;unfold Qg at hf;split at hf
    ·rename_i fs hu;split at hf
     ·rename_i fl hfl;split at hf
      ·simp at hf;obtain⟨rfl,rfl,rfl⟩:=hf;simp[Instr.field,run_underlying hu,hfl,asAgg,h1]
      ·simp at hf
     ·simp at hf
    ·simp at hf
   ·simp at h
 |_=>simp[kX] at h
def jF (P:Program) (T:TypeId) (x ix:DV):Option DV :=
 match ix with
 |.pv (.lit (.int _ i)) =>
   match x with
   |.agg cs=>match QL P T with
     |some (some n,e,sz)=>if 0<=i/\i<n then hE P e cs (i.toNat*sz) else none
     |_=>none
   |.pv (.str l)=>match P.underlying T with
     |some .string=>match l[i.toNat]? with
       |some b=>if 0<=i then some (.pv (.lit (.int .u8 b.toNat))) else none
       |none=>none
     |_=>none
   |_=>none
 |_=>none
def Rt (hh:HeapRel w β hp) (hx:RelD w β hp x v) (hi:RelD w β hp ix u) (h:jF P T x ix = some d):
 Does P w β hp (Instr.index T v u) d hp:=by
 unfold jF at h;split at h
 ·rename_i ki i;obtain rfl:=vH hi;split at h
  ·rename_i cs;split at h
   ·rename_i n e sz he;split at h
    ·rename_i hc;cases hx with
     |agg _ vs hl hd =>
       obtain⟨hu,i',hi',rfl⟩:=vG he;obtain⟨r,h1,h2⟩:=Dw (P:=P) ⟨hl,hd⟩ h;refine Qh hh ?_ h2;simp[Instr.index,asIntOf,run_underlying hu,hc,sizeOf,typeInfo,hi',h1]
    ·simp at h
   ·simp at h
  ·rename_i l;split at h
   ·rename_i hu;split at h
    ·rename_i b hb;split at h
     ·rename_i h0;simp at h;subst h;cases hx with
      |pv _ _ hp' =>
        cases hp' with
        |str =>
          refine Qh hh ?_ (.pv _ _ (.lit _ rfl))
          have hg:(⟨l.toArray⟩:ByteArray)[i.toNat]?=some b:=by
           have hlt:i.toNat<l.length:=(Ja.1 hb).1;have hlt2:i.toNat<(⟨l.toArray⟩:ByteArray).size:=by simpa [ByteArray.size] using hlt
           rw[getElem?_pos (⟨l.toArray⟩:ByteArray) i.toNat hlt2];have:=Ja.1 hb;obtain⟨h',rfl⟩:=this;rfl
          simp[Instr.index,asIntOf,run_underlying hu,h0,hg]
     ·simp at h
    ·simp at h
   ·simp at h
  ·simp at h
 ·simp at h
end Go.V
namespace Go.V
def Rx (h:RelL w β hp cs vs) (g:RelL w β hp ds us) (hf:off + ds.length<=cs.length):
 RelL w β hp (splice cs off ds) (us.zipIdx.foldl (fun cs (c,j)=>cs.setIfInBounds (off+j) c) vs):=by
 have key:∀(l:List (Value×Nat)) (A:Array Value) (i:Nat),(l.foldl (fun(cs:Array Value) (x:Value×Nat)=>cs.setIfInBounds (off+x.2) x.1) A).size=A.size:=by
  intro l;induction l with
  |nil=>intro A i;rfl
  |cons x r ih=>intro A i;simp only[Kc];rw[ih _ i];simp
 have key2:∀(l:List Value) (A:Array Value) (m i:Nat),off + m + l.length<=A.size ->
  ((l.zipIdx m).foldl (fun(cs:Array Value) (x:Value×Nat)=>cs.setIfInBounds (off+x.2) x.1) A).getD i undef=if off+m<=i/\i<off+m+l.length then l.getD (i-(off+m)) undef else A.getD i undef:=by
  intro l;induction l with
  |nil=>intro A m i _;simp;omega
  |cons x r ih =>
    intro A m i hl;simp only[List.zipIdx_cons,Kc];simp only[Js] at hl;rw[ih _ (m+1) i vg];by_cases h1:off+(m+1)<=i/\i<off+(m+1)+r.length
    ·rw [if_pos h1,if_pos (by simp only [Js];omega)];have:i-(off+m)=(i-(off+(m+1)))+1:=vz;rw[this];simp
    ·rw [if_neg h1];by_cases h2:i=off+m
     ·subst h2;rw[if_pos (by simp only[Js];omega)];have hlt:off+m<A.size:=vz;simp[hlt]
     ·rw [if_neg (by simp only [Js];omega)];simp only[Jb];rw[Array.getElem?_setIfInBounds_ne vz]
 have e:us.zipIdx.foldl (fun(cs:Array Value) (x:Value×Nat)=>cs.setIfInBounds (off+x.2) x.1) vs=(us.toList.zipIdx).foldl (fun(cs:Array Value) (x:Value×Nat)=>cs.setIfInBounds (off+x.2) x.1) vs:=by
  rw[<-Array.foldl_toList];simp
 refine⟨?_,fun i d hi=>?_⟩
 ·show _ = (us.zipIdx.foldl (fun (cs:Array Value) (x:Value × Nat)=>cs.setIfInBounds (off + x.2) x.1) vs).size
  rw[e,key _ _ 0];have:=h.1;simp[splice];omega
 ·show RelD w β hp d ((us.zipIdx.foldl (fun (cs:Array Value) (x:Value × Nat)=>cs.setIfInBounds (off + x.2) x.1) vs).getD i undef)
  have hfit:off+0+us.toList.length<=vs.size:=by have:=h.1;have:=g.1;simp;omega
  rw[e,key2 us.toList vs 0 i hfit];rw[Dk (Jt (Nat.le_add_right _ _) hf)] at hi;have hgl:us.toList.length=ds.length:=by simp[g.1]
  split at hi
  ·rw[if_neg vz];exact h.2 _ _ hi
  ·split at hi
   ·rw [if_pos vz];have h2:=g.2 _ _ hi;have hx:us.toList.getD (i-(off+0)) undef=us.getD (i-off) undef:=by simp[Jb,JL]
    rw[hx];exact h2
   ·rw[if_neg vz];exact h.2 _ _ hi
def fJ (place:Nat->Option (Nat × Nat)) (cells:List DV):List (Nat × DV)->Option (List DV)
 |[]=>some cells
 |(i,d) :: rest =>
   match place i with
   |none=>none
   |some (off,size) =>
     if (fa d).length=size/\off+size<=cells.length/\Qp (fa d)=true then fJ place (splice cells off (fa d)) rest else none
def vI:∀{ps:List (Nat × DV)} {qs:List (Nat × Value)} {cs ds:List DV} {vs:Array Value},RelL w β hp cs vs->Qp cs = true ->
 ps.length=qs.length->(∀(i:Nat) (p:Nat×DV),ps[i]?=some p->∃q,qs[i]?=some q/\q.1=p.1/\RelD w β hp p.2 q.2)->fJ place cs ps=some ds ->
 ∃us,Instr.fill place vs qs=some us/\RelL w β hp ds us/\Qp ds=true
 |[],[],cs,ds,vs,h,ho,_,_,hv=>by
   simp[fJ] at hv;subst hv;exact⟨vs,rfl,h,ho⟩
 |[],_::_,_,_,_,_,_,hl,_,_=>by simp at hl
 |_::_,[],_,_,_,_,_,hl,_,_=>by simp at hl
 |(i, d) :: ps,(j,v) :: qs,cs,ds,vs,h,ho,hl,hr,hv=>by
   obtain⟨q,hq,h1,h2⟩:=hr 0 (i,d) rfl;simp at hq;subst hq;simp only at h1 h2
   subst h1;unfold fJ at hv;cases hp':place j with
   |none=>simp[hp'] at hv
   |some os =>
     obtain⟨off,size⟩:=os;simp only[hp'] at hv;split at hv
     ·rename_i hc;obtain⟨hc1,hc2,hc3⟩:=hc;have hrel:=Do h2 hc3;have hs:v.cells.size=size:=by rw[<-hrel.1];exact hc1
      have hspl:=Rx (off:=off) h hrel vz
      have hone:Qp (splice cs off (fa d)) = true:=by
       have app:∀(a b:List DV),Qp a=true->Qp b=true->Qp (a++b)=true:=by
        intro a b ha hb;induction a with
        |nil=>exact hb
        |cons x r ih=>simp only[Qp,Jw] at ha;simp[Qp,ha.1,ih ha.2]
       have tk:∀(n:Nat) (a:List DV),Qp a = true->Qp (a.take n) = true:=by
        intro n a ha;induction a generalizing n with
        |nil=>simp[Qp]
        |cons x r ih=>cases n with
          |zero=>rfl
          |succ n=>simp only[Qp,Jw] at ha;simp[Qp,ha.1,ih n ha.2]
       have dr:∀(n:Nat) (a:List DV),Qp a = true->Qp (a.drop n) = true:=by
        intro n a ha;induction a generalizing n with
        |nil=>simp[Qp]
        |cons x r ih=>cases n with
          |zero=>exact ha
          |succ n=>simp only[Qp,Jw] at ha;simpa using ih n ha.2
       exact app _ _ (app _ _ (tk _ _ ho) hc3) (dr _ _ ho)
      obtain⟨us,e1,e2,e3⟩:=vI hspl hone (by simpa using hl) (fun i p hp=>hr (i+1) p (by simpa using hp)) hv;refine⟨us,?_,e2,e3⟩;unfold Instr.fill;simp only[hp'];rw[if_neg]
      ·exact e1
      ·have:=h.1;simp[hs];omega
     ·simp at hv
def Qy(P:Program)(T:TypeId):Option (Nat->Option (Nat×Nat)):=
 match P.underlying T with
 |some (.struct fs)=>((fs.toList.mapM fun f=>(P.info? f.type).map fun i=>(f.offset,i.size))).map fun l=>fun i=>l[i]?
 |some (.array _ e)=>(P.info? e).map fun i=>fun j=>some (j*i.size,i.size)
 |_=>none
def oJ(P:Program)(T:TypeId)(ps:List (Nat×DV)):Option DV:=
 match QO P T,Qy P T with
 |some z,some pl=>if Qp z=true then (fJ pl z ps).map .agg else none
 |_,_=>none
def Ry (fs:List Field):∀{l:List (Nat × Nat)},(fs.mapM fun f=>(P.info? f.type).map fun i=>(f.offset,i.size)) = some l->∀w,
 (fs.mapM fun(f:Field)=>(do pure (f.offset,<-sizeOf f.type):Sem (Nat×Nat))).run P w=.ok l w:=by
 induction fs with
 |nil=>intro l h w;simp at h;subst h;simp
 |cons f fs ih =>
   intro l h w;rw[Kh] at h;cases hi:P.info? f.type with
   |none=>simp[hi] at h
   |some i =>
     cases hm:(fs.mapM fun f=>(P.info? f.type).map fun i=>(f.offset,i.size)) with
     |none=>simp[hi,hm] at h
     |some r =>
       simp[hi,hm] at h;subst h;rw[Kh];have:=ih hm w;simp[sizeOf,typeInfo,hi] at this |-;simp[this]
def Rz (hh:HeapRel w β hp) (hl:ps.length = qs.toList.length) (hr:∀(i:Nat) (p:Nat × DV),ps[i]? = some p->∃q,qs.toList[i]? = some q/\q.1 = p.1/\RelD w β hp p.2 q.2) (h:oJ P T ps = some d):
 Does P w β hp (Instr.build T qs) d hp:=by
 unfold oJ at h;split at h
 ·rename_i z pl hz hpl;split at h
  ·rename_i ho;cases hv:fJ pl z ps with
   |none=>simp[hv] at h
   |some ds =>
     simp[hv] at h;subst h;obtain⟨zv,hz1,_,hz2⟩:=gZ hz w β hp;obtain⟨us,h1,h2,_⟩:=vI (vs:=zv.cells) hz2 ho hl hr hv;refine Qh hh (v:=.agg us) ?_ (.agg _ _ h2.1 h2.2);unfold Qy at hpl;cases hu:P.underlying T with
     |none=>simp[hu] at hpl
     |some u =>
       cases u with
       |struct fs =>
         simp only[hu] at hpl;cases hm:(fs.toList.mapM fun f=>(P.info? f.type).map fun i=>(f.offset,i.size)) with
         |none=>simp[hm] at hpl
         |some l =>
           simp[hm] at hpl;subst hpl;have hrun:=Ry fs.toList hm w
           have harr:(fs.mapM fun(f:Field)=>(do pure (f.offset,<-sizeOf f.type):Sem (Nat×Nat))).run P w=.ok l.toArray w:=by
            rw[Array.mapM_eq_mapM_toList,Sem.run_map,hrun];rfl
           simp only[Instr.build,Sem.run_bind,hz1,Result.andThen_ok,run_underlying hu,harr];simp[h1]
       |array n e =>
         simp only[hu] at hpl;cases hi:P.info? e with
         |none=>simp[hi] at hpl
         |some i =>
           simp[hi] at hpl;subst hpl;simp[Instr.build,hz1,run_underlying hu,sizeOf,typeInfo,hi,h1]
       |_=>simp[hu] at hpl
  ·simp at h
 ·simp at h
def cY:Option DV->Option Nat
 |none=>some 0
 |some (.pv (.lit (.int _ i)))=>if 0<=i then some i.toNat else none
 |_=>none
def dL(len:Nat):Option DV->Option Nat
 |none=>some len
 |some (.pv (.lit (.int _ i)))=>if 0<=i then some i.toNat else none
 |_=>none
def bW (P:Program) (T:TypeId) (x:DV) (lo hi mx:Option DV):Option DV :=
 match x with
 |.pv (.str l) =>
   match P.underlying T,cY lo,dL l.length hi,mx with
   |some .string,some a,some b,none=>if a<=b/\b<=l.length then some (.pv (.str ((l.take b).drop a))) else none
   |_,_,_,_=>none
 |.own k sz off len =>
   match QL P T,lo,dL len hi,mx with
   |some (none,_,_),none,some b,none=>if b<=len then some (.own k sz off b) else none
   |some (none,_,sz'),some l,some b,none=>match cY (some l) with
     |some a=>if a<len/\a<=b/\b<=len/\sz'=sz then some (.own k sz (off+a*sz) (b-a)) else if a=len/\b=len then some (.pv (.sl [])) else none
     |none=>none
   |_,_,_,_=>none
 |.ownc k sz off len cap =>
   match QL P T,cY lo,dL len hi,mx with
   |some (none,_,sz'),some a,some b,none=>if a<=b/\b<=cap/\sz'=sz then some (.ownc k sz (off+a*sz) (b-a) (cap-a)) else none
   |some (none,_,sz'),some a,some b,some m=>match hi,cY (some m) with
     |some _,some c=>if a<=b/\b<=c/\c<=cap/\sz'=sz then some (.ownc k sz (off+a*sz) (b-a) (c-a)) else none
     |_,_=>none
   |_,_,_,_=>none
 |x =>
   match cX x with
   |some xs =>
     match QL P T,cY lo,dL xs.length hi,mx with
     |some (none,_,sz),some a,some b,none=>if a<=b/\b<=xs.length/\(xs=[]\/(xs[0]?.map JR)=some sz) then some (.pv (.sl ((xs.take b).drop a))) else none
     |some (none,_,sz),some a,some b,some m=>match hi,cY (some m) with
       |some _,some c=>if a<=b/\b=c/\b<=xs.length/\(xs=[]\/(xs[0]?.map JR)=some sz) then some (.pv (.slc ((xs.take b).drop a))) else none
       |_,_=>none
     |_,_,_,_=>none
   |none=>none
def RA{α β:Type}{x:Option α}{f:α->β}{y:β}(h:x.map f=some y):∃a,x=some a/\f a=y:=by
 cases x with
 |none=>simp at h
 |some a=>exact⟨a,rfl,by simpa using h⟩
def Qk(h:RelD w β hp (.pv (.lit u)) v):v=u:=vH h
def iR (h:cY lo = some a) (hr:∀d,lo = some d->∃v,lv = some v/\RelD w β hp d v) (hn:lo = none->lv = none) (ha:a<=y):(lv = none/\a = 0)\/∃v,lv = some v/\(Instr.sliceBound v y code).run P w = .ok a w:=by
 cases lo with
 |none=>simp[cY] at h;exact .inl ⟨hn rfl,h.symm⟩
 |some d =>
   obtain⟨v,rfl,hd⟩:=hr d rfl;unfold cY at h;split at h
   ·rename_i he;simp at he
   ·rename_i k i he;simp at he;subst he;obtain rfl:=Qk hd;split at h
    ·rename_i h0;simp at h;refine .inr ⟨_,rfl,?_⟩;have:i<=y:=vz;simp[Instr.sliceBound,asIntOf,h0,this,h]
    ·simp at h
   ·simp at h
def hY (h:dL len hi = some b) (hr:∀d,hi = some d->∃v,hv = some v/\RelD w β hp d v) (hn:hi = none->hv = none) (hb:b<=y):(hv = none/\b = len)\/∃v,hv = some v/\(Instr.sliceBound v y code).run P w = .ok b w:=by
 cases hi with
 |none=>simp[dL] at h;exact .inl ⟨hn rfl,h.symm⟩
 |some d =>
   obtain⟨v,rfl,hd⟩:=hr d rfl;unfold dL at h;split at h
   ·rename_i he;simp at he
   ·rename_i k i he;simp at he;subst he;obtain rfl:=Qk hd;split at h
    ·rename_i h0;simp at h;refine .inr ⟨_,rfl,?_⟩;have:i<=y:=vz;simp[Instr.sliceBound,asIntOf,h0,this,h]
    ·simp at h
   ·simp at h
def jG(_hbc:b<=cap)(hh:(hv=none/\b=len)\/∃v,hv=some v/\(Instr.sliceBound v cap (if isSl then .sliceAcap else .sliceAlen)).run P w=.ok b w)(hl:(lv=none/\a=0)\/∃v,lv=some v/\(Instr.sliceBound v b .sliceB).run P w=.ok a w):
 (Instr.sliceBounds isSl len cap lv hv none).run P w=.ok (a,b,cap) w:=by
 rcases hh with⟨rfl,rfl⟩|⟨v,rfl,hv⟩<;>rcases hl with⟨rfl,rfl⟩|⟨u,rfl,hu⟩<;>simp_all [Instr.sliceBounds]
def jH(h:RelD w β hp (.pv (.str l)) v):v=.string ⟨l.toArray⟩:=by
 cases h with
 |pv _ _ h=>cases h;rfl
def vJ(l:List UInt8)(a b:Nat):(⟨l.toArray⟩:ByteArray).extract a b=⟨((l.take b).drop a).toArray⟩:=by
 apply ByteArray.ext
 rw[ByteArray.data_extract];grind
def oK{xs:List (List PV)}{a b i:Nat}{c:List PV}(h:((xs.take b).drop a)[i]?=some c):xs[a+i]?=some c/\a+i<b:=by
 grind
def rW{im:Nat->Prop}{xs:List (List PV)}{a b cap cap' sz:Nat}{ad0:Option Addr}{val:Nat->Nat->Value}(hab:a<=b)(hb:b<=xs.length)(hcap':b-a<=cap')(hm:cap'<=maxLen)(h3:∀(i:Nat) (c:List PV),xs[i]?=some c->c.length=sz)(h4:∀ad,ad0=some ad->0<cap->ad.spot=none)(hcc:cap'<=cap-a)(h5:∀(i j:Nat) (c:List PV) (d:PV),xs[i]?=some c->c[j]?=some d->∃ad,ad0=some ad/\ad.block<w.heap.size/\¬im ad.block/\w.cell? (at_ ad (i*sz+j))=some (val i j))(h6:∀(i j:Nat) (c:List PV) (d:PV),xs[i]?=some c->c[j]?=some d->RelP w im d (val i j))(hcap:b<=cap):
 RelP w im (.sl ((xs.take b).drop a)) (.slice (if cap=a then ad0 else ad0.map (·.add (a*sz))) (b-a) cap')/\(cap'=b-a->RelP w im (.slc ((xs.take b).drop a)) (.slice (if cap=a then ad0 else ad0.map (·.add (a*sz))) (b-a) cap')):=by
 have hlen:((xs.take b).drop a).length=b-a:=vg
 have hsp:∀ad,(if cap=a then ad0 else ad0.map (·.add (a*sz)))=some ad->0<cap'->ad.spot=none:=by
  intro ad h h0;split at h
  ·omega
  ·cases ad0 with
   |none=>simp at h
   |some x=>simp at h;subst h;rw[kV (h4 x rfl vz)];rfl
 have hcell:∀(i j:Nat) (c:List PV) (d:PV),((xs.take b).drop a)[i]?=some c->c[j]?=some d ->
  ∃ad,(if cap=a then ad0 else ad0.map (·.add (a*sz)))=some ad/\ad.block<w.heap.size/\¬im ad.block/\w.cell? (at_ ad (i*sz+j))=some (val (a+i) j):=by
  intro i j c d hc hd;obtain⟨hx,hlt⟩:=oK hc;have hlt2:=(Ja.1 hx).1;obtain⟨ad,rfl,x1,x2,x3⟩:=h5 _ _ _ _ hx hd;rw[if_neg vz];refine⟨at_ ad (a*sz),by simp[kV (h4 ad rfl vz)],x1,x2,?_⟩;have:(a+i)*sz+j=a*sz+(i*sz+j):=by rw[Jr];omega
  rw[this] at x3;simpa [at_,JA] using x3
 refine⟨?_,fun he=>?_⟩
 ·have:=RelP.sl (w:=w) (im:=im) ((xs.take b).drop a) (if cap = a then ad0 else ad0.map (·.add (a * sz))) cap' sz (fun i j=>val (a + i) j) vz hm
   (fun i c hc=>h3 _ _ (oK hc).1) hsp hcell (fun i j c d hc hd=>h6 _ _ _ _ (oK hc).1 hd)
  rwa [hlen] at this
 ·subst he
  have:=RelP.slc (w:=w) (im:=im) ((xs.take b).drop a) (if cap=a then ad0 else ad0.map (·.add (a*sz))) sz (fun i j=>val (a+i) j) vz
   (fun i c hc=>h3 _ _ (oK hc).1) (by rw[hlen];exact hsp) hcell (fun i j c d hc hd=>h6 _ _ _ _ (oK hc).1 hd)
  rwa [hlen] at this
def RB (hh:HeapRel w β hp) (hx:RelD w β hp x v) (hlo:(∀d,lo = some d->∃v,lv = some v/\RelD w β hp d v)/\(lo = none->lv = none)) (hhi:(∀d,hi = some d->∃v,hv = some v/\RelD w β hp d v)/\(hi = none->hv = none)) (hmx:(∀d,mx = some d->∃v,mv = some v/\RelD w β hp d v)/\(mx = none->mv = none)) (h:bW P T x lo hi mx = some d):
 Does P w β hp (Instr.sliceAt T v lv hv mv) d hp:=by
 unfold bW at h;split at h
 ·rename_i l;split at h
  ·rename_i a b hu ha hb;split at h
   ·rename_i hc;simp at h;subst h;obtain rfl:=jH hx;have hmv:=hmx.2 rfl;subst hmv;have hsz:(⟨l.toArray⟩:ByteArray).size=l.length:=by simp[ByteArray.size]
    have h1:=hY (P:=P) (y:=l.length) (code:=if false then BoundsCode.sliceAcap else .sliceAlen) hb hhi.1 hhi.2 hc.2;have h2:=iR (P:=P) (y:=b) (code:=.sliceB) ha hlo.1 hlo.2 hc.1;have hr:=jG (isSl:=false) (len:=l.length) hc.2 h1 h2;refine Qh hh (v:=.string ⟨((l.take b).drop a).toArray⟩) ?_ (.pv _ _ (.str _));simp[Instr.sliceAt,Instr.slice,run_underlying hu,hsz,hr,vJ]
   ·simp at h
  ·simp at h
 ·rename_i k sz off len;split at h
  ·rename_i e s b he hb;split at h
   ·rename_i hc;simp at h;subst h;cases hx with
    |own0 _ _ a hk hm ha =>
      have hb0:b=0:=vz;subst hb0;have hmv:=hmx.2 rfl;subst hmv;have hlv:=hlo.2 rfl;subst hlv;obtain⟨hu,i',hi',rfl⟩:=Qq he;have h1:=hY (P:=P) (y:=0) (code:=if true then BoundsCode.sliceAcap else .sliceAlen) hb hhi.1 hhi.2 vz;have hr:=jG (isSl:=true) (len:=0) (a:=0) (cap:=0) vz h1 (.inl ⟨rfl,rfl⟩);refine Qh hh (v:=.slice a 0 0) ?_ (.own0 k sz a hk hm ha);simp[Instr.sliceAt,Instr.slice,run_underlying hu,hr,sizeOf,typeInfo,hi']
    |own _ _ _ _ cap b0 C T' m hk hm hlc hcm hC hoff =>
      have hmv:=hmx.2 rfl;subst hmv;have hlv:=hlo.2 rfl;subst hlv;obtain⟨hu,i',hi',rfl⟩:=Qq he;have h1:=hY (P:=P) (y:=cap) (code:=if true then BoundsCode.sliceAcap else .sliceAlen) hb hhi.1 hhi.2 vz;have hr:=jG (isSl:=true) (len:=len) (a:=0) (cap:=cap) vz h1 (.inl ⟨rfl,rfl⟩);refine Qh hh (v:=.slice (some ⟨b0,off,none⟩) b cap) ?_ (.own k sz off b cap b0 C T' m hk hm vz hcm hC hoff);simp[Instr.sliceAt,Instr.slice,run_underlying hu,hr,sizeOf,typeInfo,hi',Addr.add]
   ·simp at h
  ·rename_i e sz' l b he hb;split at h
   ·rename_i a ha;split at h
    ·rename_i hc;simp at h;subst h;obtain⟨hal,hab,hbl,hszz⟩:=hc;have hmv:=hmx.2 rfl;subst hmv;obtain⟨hu,i',hi',hszi⟩:=Qq he;cases hx with
     |own0=>omega
     |own _ _ _ _ cap b0 C T' m hk hm hlc hcm hC hoff =>
       have h1:=hY (P:=P) (y:=cap) (code:=if true then BoundsCode.sliceAcap else .sliceAlen) hb hhi.1 hhi.2 vz;have h2:=iR (P:=P) (y:=b) (code:=.sliceB) ha hlo.1 hlo.2 hab;have hr:=jG (isSl:=true) (len:=len) (a:=a) (cap:=cap) vz h1 h2;have hne:¬cap=a:=vz
       have hsum:off+a*sz+(cap-a)*sz<=C.size:=by
        rw[JA,<-Jr,show a+(cap-a)=cap by omega];exact hoff
       refine Qh hh (v:=.slice (some ⟨b0,off+a*sz,none⟩) (b-a) (cap-a)) ?_ (.own k sz _ _ (cap-a) b0 C T' m hk hm vz vz hC hsum);simp[Instr.sliceAt,Instr.slice,run_underlying hu,hr,sizeOf,typeInfo,hi',Addr.add,hne,hszi,hszz]
    ·split at h
     ·rename_i hc;simp at h;subst h;obtain⟨rfl,rfl⟩:=hc;have hmv:=hmx.2 rfl;subst hmv;obtain⟨hu,i',hi',hszi⟩:=Qq he
      have key:∀(ad:Option Addr) (cap:Nat),(∀x,ad=some x->0<cap->x.spot=none)->b<=cap->cap<=maxLen->v=.slice ad b cap->Does P w β hp (Instr.sliceAt T v lv hv none) (.pv (.sl [])) hp:=fun ad cap hsp hlc hcm hve=>by
       subst hve;have h1:=hY (P:=P) (y:=cap) (code:=if true then BoundsCode.sliceAcap else .sliceAlen) hb hhi.1 hhi.2 hlc;have h2:=iR (P:=P) (y:=b) (code:=.sliceB) ha hlo.1 hlo.2 (Jd _);have hr:=jG (isSl:=true) (len:=b) (a:=b) (cap:=cap) hlc h1 h2;refine Qh hh (v:=.slice (if cap=b then ad else ad.map (·.add (b*i'.size))) (b-b) (cap-b)) ?_ (.pv _ _ ?_)
       ·simp[Instr.sliceAt,Instr.slice,run_underlying hu,hr,sizeOf,typeInfo,hi']
       ·rw [Kk]
        exact .sl [] _ (cap-b) 0 (fun _ _=>undef) vv vz vv (fun x hx h0=>by
         split at hx
         ·exact hsp x hx vz
         ·obtain ⟨y,hy,e⟩:=RA hx;rw[<-e];rw[kV (hsp y hy vz)]
          rfl) vv vv
      cases hx with
      |own0 _ _ ad _ _ hsp=>exact key ad 0 (fun _ _ h0=>absurd h0 (J1 _)) (Jd _) (Kb _) rfl
      |own _ _ _ _ cap b0 C T' m hk hm hlc hcm hC hoff=>exact key _ cap (fun x hx _=>by simp at hx;subst hx;rfl) hlc hcm rfl
     ·simp at h
   ·simp at h
  ·simp at h
 ·rename_i k sz off len cap;split at h
  ·rename_i e sz' a b he ha hb;split at h
   ·rename_i hc;simp at h;subst h;obtain⟨hab,hbl,hszz⟩:=hc;have hmv:=hmx.2 rfl;subst hmv;obtain⟨hu,i',hi',hszi⟩:=Qq he;cases hx with
    |ownc _ _ _ _ _ b0 o C T' m hk hm hlc hcm hC hoff hoo =>
      have h1:=hY (P:=P) (y:=cap) (code:=if true then BoundsCode.sliceAcap else .sliceAlen) hb hhi.1 hhi.2 vz;have h2:=iR (P:=P) (y:=b) (code:=.sliceB) ha hlo.1 hlo.2 hab;have hr:=jG (isSl:=true) (len:=len) (a:=a) (cap:=cap) vz h1 h2
      have hsum:off+a*sz+(cap-a)*sz<=C.size:=by
       rw[JA,<-Jr,show a+(cap-a)=cap by omega];exact hoff
      by_cases hne:cap=a
      ·subst hne;refine Qh hh (v:=.slice (some ⟨b0,o,none⟩) (b-cap) (cap-cap)) ?_ (.ownc k sz _ _ _ b0 o C T' m hk hm vz vz hC hsum (fun h=>by omega));simp[Instr.sliceAt,Instr.slice,run_underlying hu,hr,sizeOf,typeInfo,hi',Addr.add,hszi,hszz]
      ·refine Qh hh (v:=.slice (some ⟨b0,o + a * sz,none⟩) (b - a) (cap - a)) ?_ (.ownc k sz _ _ _ b0 _ C T' m hk hm vz vz hC hsum (fun h=>by rw [hoo vz]));simp[Instr.sliceAt,Instr.slice,run_underlying hu,hr,sizeOf,typeInfo,hi',Addr.add,hne,hszi,hszz]
   ·simp at h
  ·rename_i e sz' a b m' he ha hb;split at h
   ·rename_i hi1 c hm';split at h
    ·rename_i hc;simp at h;subst h;obtain⟨hab,hbc,hcc,hszz⟩:=hc;obtain⟨hu,i',hi',hszi⟩:=Qq he;cases hx with
     |ownc _ _ _ _ _ b0 o C T' m hk hm hlc hcm hC hoff hoo =>
       rcases iR (P:=P) (y:=cap) (code:=.slice3Acap) hm' hmx.1 hmx.2 vz with⟨hno,_⟩|⟨mv',rfl,hmr⟩
       ·obtain⟨_,hq,_⟩:=hmx.1 m' rfl;rw[hno] at hq;simp at hq
       ·have hhv:∃hv',hv = some hv'/\(Instr.sliceBound hv' c .slice3B).run P w = .ok b w:=by
         rcases hY (P:=P) (y:=c) (code:=.slice3B) hb hhi.1 hhi.2 hbc with⟨_,_⟩|h
         ·obtain⟨_,hq,_⟩:=hhi.1 _ rfl;simp_all
         ·exact h
        obtain⟨hv',rfl,hvr⟩:=hhv;have b2:=iR (P:=P) (y:=b) (code:=.slice3C) ha hlo.1 hlo.2 hab
        have hr:(Instr.sliceBounds true len cap lv (some hv') (some mv')).run P w=.ok (a,b,c) w:=by
         rcases b2 with⟨rfl,rfl⟩|⟨u,rfl,hu⟩<;>simp_all [Instr.sliceBounds]
        have hsum:off+a*sz+(c-a)*sz<=C.size:=by
         rw[JA,<-Jr,show a+(c-a)=c by omega];exact Jt (JC (Je _ hcc) _) hoff
        by_cases hne:c=a
        ·subst hne;refine Qh hh (v:=.slice (some ⟨b0,o,none⟩) (b-c) (c-c)) ?_ (.ownc k sz _ _ _ b0 o C T' m hk hm vz vz hC hsum (fun h=>by omega));simp[Instr.sliceAt,Instr.slice,run_underlying hu,hr,sizeOf,typeInfo,hi',Addr.add,hszi,hszz]
        ·refine Qh hh (v:=.slice (some ⟨b0,o + a * sz,none⟩) (b - a) (c - a)) ?_ (.ownc k sz _ _ _ b0 _ C T' m hk hm vz vz hC hsum (fun h=>by rw [hoo vz]));simp[Instr.sliceAt,Instr.slice,run_underlying hu,hr,sizeOf,typeInfo,hi',Addr.add,hne,hszi,hszz]
    ·simp at h
   ·simp at h
  ·simp at h
 ·rename_i hn1 hn2 hn3;split at h
  ·rename_i xs hs;obtain⟨ad,cap,sz,val,rfl,h1,h2,h3,h4,h5,h6,_⟩:=mG hx hs;split at h
   ·rename_i e s a b he ha hb;split at h
    ·rename_i hc;simp at h;subst h;obtain⟨hab,hbl,hsz⟩:=hc;have hmv:=hmx.2 rfl;subst hmv;obtain⟨hu,i',hi',rfl⟩:=Qq he;have b1:=hY (P:=P) (y:=cap) (code:=if true then BoundsCode.sliceAcap else .sliceAlen) hb hhi.1 hhi.2 vz;have b2:=iR (P:=P) (y:=b) (code:=.sliceB) ha hlo.1 hlo.2 hab;have hr:=jG (isSl:=true) (len:=xs.length) (a:=a) (cap:=cap) vz b1 b2;refine Qh hh (v:=.slice (if cap=a then ad else ad.map (·.add (a*i'.size))) (b-a) (cap-a)) ?_ (.pv _ _ ?_)
     ·simp[Instr.sliceAt,Instr.slice,run_underlying hu,hr,sizeOf,typeInfo,hi']
     ·rcases hsz with rfl|hsz
      ·simp at hbl;subst hbl;have ha0:a=0:=vz;subst ha0;have:=(rW (w:=w) (im:=img β hp) (xs:=[]) (a:=0) (b:=0) (cap:=cap) (cap':=cap-0) (sz:=i'.size) (ad0:=ad) (val:=val) vz vv vz vz vv h4 vz vv vv vv).1;simpa using this
      ·have:sz = i'.size:=by
        cases hx0:xs[0]? with
        |none=>simp[hx0] at hsz
        |some c=>simp[hx0] at hsz;rw[<-h3 _ _ hx0];exact hsz
       subst this;exact(rW hab hbl vz vz h3 h4 vz h5 h6 vz).1
    ·simp at h
   ·rename_i e s a b m he ha hb;split at h
    ·rename_i hi1 c hm;split at h
     ·rename_i hc;simp at h;subst h;obtain⟨hab,rfl,hbl,hsz⟩:=hc;obtain⟨hu,i',hi',rfl⟩:=Qq he;rcases iR (P:=P) (y:=cap) (code:=.slice3Acap) hm hmx.1 hmx.2 vz with⟨hno,_⟩|⟨mv',rfl,hmr⟩
      ·obtain⟨_,hq,_⟩:=hmx.1 m rfl;rw[hno] at hq;simp at hq
      ·have hhv:∃hv',hv = some hv'/\(Instr.sliceBound hv' b .slice3B).run P w = .ok b w:=by
        rcases hY (P:=P) (y:=b) (code:=.slice3B) hb hhi.1 hhi.2 (Jd _) with⟨_,_⟩|h
        ·obtain⟨_,hq,_⟩:=hhi.1 _ rfl;simp_all
        ·exact h
       obtain⟨hv',rfl,hvr⟩:=hhv;have b2:=iR (P:=P) (y:=b) (code:=.slice3C) ha hlo.1 hlo.2 hab
       have hr:(Instr.sliceBounds true xs.length cap lv (some hv') (some mv')).run P w=.ok (a,b,b) w:=by
        rcases b2 with⟨rfl,rfl⟩|⟨u,rfl,hu⟩<;>simp_all [Instr.sliceBounds]
       refine Qh hh (v:=.slice (if b=a then ad else ad.map (·.add (a*i'.size))) (b-a) (b-a)) ?_ (.pv _ _ ?_)
       ·simp[Instr.sliceAt,Instr.slice,run_underlying hu,hr,sizeOf,typeInfo,hi']
       ·have hx0:(xs = []\/(xs[0]?.map JR) = some i'.size):=hsz;rcases hsz with rfl|hsz
        ·simp at hbl;subst hbl;have ha0:a=0:=vz;subst ha0;have:=(rW (w:=w) (im:=img β hp) (xs:=[]) (a:=0) (b:=0) (cap:=0) (cap':=0) (sz:=i'.size) (ad0:=ad) (val:=val) vz vv vz vz vv (fun _ _ h0=>absurd h0 (J1 _)) vz vv vv vv).2 rfl;simpa using this
        ·have:sz = i'.size:=by
          cases hx0:xs[0]? with
          |none=>simp[hx0] at hsz
          |some c=>simp[hx0] at hsz;rw[<-h3 _ _ hx0];exact hsz
         subst this;exact(rW hab hbl (Jd _) vz h3 (fun ad e h0=>h4 ad e vz) (Jd _) h5 h6 (Jd _)).2 rfl
     ·simp at h
    ·simp at h
   ·simp at h
  ·simp at h
end Go.V
namespace Go.V
abbrev DV.int(k:IntKind)(n:Int):DV:=.pv (.lit (.int k n))
abbrev DV.bool(b:Bool):DV:=.pv (.lit (.bool b))
abbrev DV.str(l:List UInt8):DV:=.pv (.str l)
abbrev PV.int(k:IntKind)(n:Int):PV:=.lit (.int k n)
abbrev PV.bool(b:Bool):PV:=.lit (.bool b)
def Qz (op:BinOp) (k:IntKind) (a:Int) (k':IntKind) (b:Int):Option DV :=
 match op with
 |.shl=>if b<0 then none else some (.int k (k.wrap (a*2 ^ min b.toNat k.bits)))
 |.shr=>if b<0 then none else some (.int k (a.fdiv (2 ^ min b.toNat k.bits)))
 |_ =>
   if k≠k' then none else
   match op with
   |.add=>some (.int k (k.wrap (a+b)))
   |.sub=>some (.int k (k.wrap (a-b)))
   |.mul=>some (.int k (k.wrap (a*b)))
   |.quo=>if b=0 then none else some (.int k (k.wrap (a.tdiv b)))
   |.rem=>if b=0 then none else some (.int k (a.tmod b))
   |.and=>some (.int k (bits .and k a b))
   |.or=>some (.int k (bits .or k a b))
   |.xor=>some (.int k (bits .xor k a b))
   |.andNot=>some (.int k (bits .andNot k a b))
   |.eql=>some (.bool (a==b))
   |.neq=>some (.bool (a != b))
   |.lss=>some (.bool (a<b))
   |.leq=>some (.bool (a<=b))
   |.gtr=>some (.bool (a > b))
   |.geq=>some (.bool (a >= b))
   |_=>none
def jI(op:BinOp)(a b:List UInt8):Option DV:=
 match op with
 |.add=>if a.length+b.length<=9223372036854775807 then some (.str (a++b)) else none
 |.eql=>some (.bool (a==b))
 |.neq=>some (.bool (!(a==b)))
 |.lss=>some (.bool (Op.bytesLess a b))
 |_=>none
def RD(hh:HeapRel w β hp)(h:Qz op k a k' b=some d):
 Does P w β hp (do eqGuard op T x y (.int k a) (.int k' b);binOp op T (.int k a) (.int k' b)) d hp:=by
 have hg:∀m:Sem Value,(do eqGuard op T x y (.int k a) (.int k' b);m:Sem Value)=m:=by
  intro m;rw[eqGuard_at_int];rfl
 rw[hg];unfold Qz at h;split at h
 ·split at h
  ·simp at h
  ·rename_i hb;simp at h;subst h;exact Qh hh (by simp[binOp,Op.shift,hb]) (.pv _ _ (.lit _ rfl))
 ·split at h
  ·simp at h
  ·rename_i hb;simp at h;subst h;exact Qh hh (by simp[binOp,Op.shift,hb]) (.pv _ _ (.lit _ rfl))
 ·split at h
  ·simp at h
  ·rename_i hk;simp at hk;subst hk;split at h
   case h_4|h_5=>
    split at h
    ·simp at h
    ·rename_i hb;simp at h;subst h;exact Qh hh (by simp[binOp,Op.intDiv,hb]) (.pv _ _ (.lit _ rfl))
   all_goals first|(simp at h;done)|(simp at h;subst h;refine Qh hh ?_ (.pv _ _ (.lit _ rfl));simp only[binOp_and,binOp_or,binOp_xor,binOp_andNot,intBits_and,intBits_or,intBits_xor,intBits_andNot];rfl)|(simp at h;subst h;refine Qh hh ?_ (.pv _ _ (.lit _ rfl));simp[binOp,Op.intArith,Op.intCmp];done)
def RE(hh:HeapRel w β hp)(h:jI op a b=some d):
 Does P w β hp (do eqGuard op T x y (.string ⟨a.toArray⟩) (.string ⟨b.toArray⟩);binOp op T (.string ⟨a.toArray⟩) (.string ⟨b.toArray⟩)) d hp:=by
 have hg:∀m:Sem Value,(do eqGuard op T x y (.string ⟨a.toArray⟩) (.string ⟨b.toArray⟩);m:Sem Value)=m:=by
  intro m;rw[eqGuard_at_string];rfl
 rw[hg];have hl:∀l:List UInt8,(⟨l.toArray⟩:ByteArray).toList=l:=fun l=>by rw[ByteArray.toList_eq]
 unfold jI at h;split at h
 ·split at h
  ·rename_i hc;simp at h;subst h;refine Qh hh (v:=.string ⟨(a++b).toArray⟩) ?_ (.pv _ _ (.str _));have hsz:¬(9223372036854775807<((⟨a.toArray⟩:ByteArray).size+(⟨b.toArray⟩:ByteArray).size:Int)):=by simp[ByteArray.size];omega
   have happ:(⟨a.toArray⟩:ByteArray)++⟨b.toArray⟩=⟨(a++b).toArray⟩:=by apply ByteArray.ext;simp
   simp[binOp,Op.stringOp,hsz,happ]
  ·simp at h
 all_goals first|(simp at h;subst h;exact Qh hh (by simp[binOp,Op.stringOp,hl]) (.pv _ _ (.lit _ rfl)))|(simp at h;done)
def oL(P:Program)(T:TypeId)(off:Nat)(l:Option (List (Nat×Nat))):Option (List (Nat×Nat)):=
 match l,vt P T with
 |some l,some none=>some (l.map fun x=>(off+x.1,x.2))
 |some l,some (some n)=>if l.all (fun x=>decide (x.1<n)) then some (l.map fun x=>(off+x.1,x.2)) else none
 |_,_=>none
def bJ (P:Program):Nat->TypeId->Option (List (Nat × Nat))
 |0,_=>none
 |d + 1,T =>
   match P.underlying T with
   |some .bool=>some [(0,0)]
   |some (.int _)=>some [(0,1)]
   |some .string=>some [(0,2)]
   |some (.struct fs) =>
     if P.stoodInHeld T then none else fs.toList.foldr (fun f r=>match (if f.name = "_" then none else oL P f.type f.offset (bJ P d f.type)),r with | some a,some b=>some (a++b) | _,_=>none) (some [])
   |some (.array n e) =>
     match P.info? e with
     |some i=>(Km 0 n).foldr (fun j r=>match oL P e (j*i.size) (bJ P d e),r with|some a,some b=>some (a++b)|_,_=>none) (some [])
     |none=>none
   |_=>none
def bK(t:Nat)(x y:DV):Option Bool:=
 match t,x,y with
 |0,.pv (.lit (.bool a)),.pv (.lit (.bool b))=>some (a==b)
 |1,.pv (.lit (.int k a)),.pv (.lit (.int k' b))=>if k=k' then some (a==b) else none
 |2,.pv (.str a),.pv (.str b)=>some (a==b)
 |_,_,_=>none
def QZ (xs ys:List DV):List (Nat × Nat)->Option Bool
 |[]=>some true
 |(j,t) :: r =>
   match xs[j]?,ys[j]? with
   |some x,some y=>match bK t x y,QZ xs ys r with
     |some a,some b=>some (a&&b)
     |_,_=>none
   |_,_=>none
def Dy (h:QZ xs ys (l1 ++ l2) = some b):∃b1 b2,QZ xs ys l1 = some b1/\QZ xs ys l2 = some b2/\b = (b1 && b2):=by
 induction l1 generalizing b with
 |nil=>exact⟨true,b,rfl,h,vv⟩
 |cons x r ih =>
   obtain⟨j,t⟩:=x;simp only[List.cons_append,QZ] at h |-;split at h
   ·split at h
    ·rename_i a b' h1 h2;simp at h;obtain⟨c1,c2,e1,e2,rfl⟩:=ih h2;refine⟨a&&c1,c2,by simp[*],e2,by rw[<-h,Bool.and_assoc]⟩
    ·simp at h
   ·simp at h
def RF (hx:xs[o]? = some x) (hy:ys[o]? = some y):∀{l:List (Nat × Nat)} {b:Bool},(∀p ∈ l,p.1 = 0)->QZ xs ys (l.map fun p=>(o + p.1,p.2)) = some b->QZ [x] [y] l = some b:=by
 intro l;induction l with
 |nil=>intro b _ h;exact h
 |cons p r ih =>
   intro b hl h;obtain⟨j,t⟩:=p;have hj:j=0:=hl (j,t) vv;subst hj;simp only[J2,QZ,JN,hx,hy] at h;split at h
   ·rename_i a b' h1 h2;have:=ih (fun p hp=>hl p (by simp[hp])) h2;simp only[QZ,JD,h1,this];exact h
   ·simp at h
def RG:∀{l:List (Nat × Nat)} {b:Bool},(∀p ∈ l,p.1 < n)->QZ xs ys (l.map fun p=>(o + p.1,p.2)) = some b->QZ ((xs.drop o).take n) ((ys.drop o).take n) l = some b:=by
 intro l;induction l with
 |nil=>intro b _ h;exact h
 |cons p r ih =>
   intro b hl h;obtain⟨j,t⟩:=p;have hj:j<n:=hl (j,t) vv;simp only[J2,QZ] at h |-;simp only[Jc,if_pos hj,Jf];split at h
   ·rename_i x y h1 h2;split at h
    ·rename_i a b' h3 h4;have:=ih (fun p hp=>hl p (by simp[hp])) h4;simp only[h3,this];exact h
    ·simp at h
   ·simp at h
def Dz(h:RelL w β hp xs vs)(o n:Nat):RelL w β hp ((xs.drop o).take n) (vs.extract o (o+n)):=by
 refine⟨by have:=h.1;simp;omega,fun i d hi=>?_⟩;rw[Jc] at hi;split at hi
 ·rw [Jf] at hi;have h2:=h.2 _ _ hi;have hlt:o+i<vs.size:=by rw[<-h.1];exact(Ja.1 hi).1
  have e:(vs.extract o (o+n)).getD i undef=vs.getD (o+i) undef:=by
   simp only[Jb,JU];rw[if_pos vz]
  rw[e];exact h2
 ·simp at hi
def DA(hu:P.underlying T=some (.struct fs)):vt P T≠some none:=by
 unfold vt;grind
def DB(hu:P.underlying T=some (.array n e)):vt P T≠some none:=by
 unfold vt;grind
def vK(h:QZ [x] [y] [(0,t)]=some b):bK t x y=some b:=by
 simp only[QZ,JD] at h;grind
def RH(h:bK 0 x y=some b):∃a c,x=.bool a/\y=.bool c/\b=(a==c):=by
 unfold bK at h;grind
def RI(h:bK 1 x y=some b):∃k a c,x=.int k a/\y=.int k c/\b=(a==c):=by
 unfold bK at h;grind
def RJ(h:bK 2 x y=some b):∃a c,x=.str a/\y=.str c/\b=(a==c):=by
 unfold bK at h;grind
def DC (h:bJ P d T = some l) (ht:vt P T = some none):l ≠ []/\∀p ∈ l,p.1 = 0:=by
 cases d with
 |zero=>simp[bJ] at h
 |succ d =>
   unfold bJ at h;split at h
   ·simp at h;subst h;simp
   ·simp at h;subst h;simp
   ·simp at h;subst h;simp
   ·rename_i hu;exact absurd ht (DA hu)
   ·rename_i hu;exact absurd ht (DB hu)
   ·simp at h
def DD (hl:oL P T o l0 = some l) (hl0:l0 = bJ P d T) (ihA:∀l,bJ P d T = some l->vt P T = some none->∀(x y:DV) (vx vy:Value) (b:Bool),RelD w β hp x vx->RelD w β hp y vy->QZ [x] [y] l = some b->(Op.equalIn m T vx vy).run P w = .ok b w) (ihB:∀l n,bJ P d T = some l->vt P T = some (some n)->∀(xs ys:List DV) (vs us:Array Value) (b:Bool),RelL w β hp xs vs->RelL w β hp ys us->QZ xs ys l = some b->(Op.equalIn m T (.agg vs) (.agg us)).run P w = .ok b w) (hx:RelL w β hp xs vs) (hy:RelL w β hp ys us) (h:QZ xs ys l = some b):
 ∃vx vy,(part T vs o).run P w=.ok vx w/\(part T us o).run P w=.ok vy w/\(Op.equalIn m T vx vy).run P w=.ok b w:=by
 subst hl0;unfold oL at hl;split at hl
 ·rename_i l1 h1 ht;simp at hl;subst hl;have hz:=(DC h1 ht).2;have hn:=(DC h1 ht).1
  obtain ⟨x,y,h3,h4⟩:∃x y,xs[o]? = some x/\ys[o]? = some y:=by
   cases l1 with
   |nil=>exact absurd rfl hn
   |cons p r =>
     obtain⟨j,t⟩:=p;have hj:j=0:=hz (j,t) vv;subst hj;simp only[J2,QZ,JN] at h;split at h
     ·exact⟨_,_,vq,vq⟩
     ·simp at h
  have hvx:o<vs.size:=by rw[<-hx.1];exact(Ja.1 h3).1
  have hvy:o<us.size:=by rw[<-hy.1];exact(Ja.1 h4).1
  refine⟨vs.getD o undef,us.getD o undef,by simp[part,(jD ht w).1,hvx],by simp[part,(jD ht w).1,hvy],?_⟩;exact ihA l1 h1 ht x y _ _ b (hx.2 _ _ h3) (hy.2 _ _ h4) (RF h3 h4 hz h)
 ·rename_i l1 n h1 ht;split at hl
  ·rename_i hall;simp at hl;subst hl;refine⟨.agg (vs.extract o (o+n)),.agg (us.extract o (o+n)),by simp[part,(gn ht w).1,(gn ht w).2],by simp[part,(gn ht w).1,(gn ht w).2],?_⟩;exact ihB l1 n h1 ht _ _ _ _ b (Dz hx o n) (Dz hy o n) (RG (fun p hp=>by simpa using List.all_eq_true.1 hall p hp) h)
  ·simp at hl
 ·simp at hl
def vL:∀(d:Nat) (T:TypeId) (l:List (Nat × Nat)),bJ P d T = some l->∀m,d<=m ->
 (vt P T=some none->∀(x y:DV) (vx vy:Value) (b:Bool),RelD w β hp x vx->RelD w β hp y vy->QZ [x] [y] l=some b->(Op.equalIn m T vx vy).run P w=.ok b w) /\
 (∀n,vt P T=some (some n)->∀(xs ys:List DV) (vs us:Array Value) (b:Bool),RelL w β hp xs vs->RelL w β hp ys us->QZ xs ys l=some b->(Op.equalIn m T (.agg vs) (.agg us)).run P w=.ok b w)
 |0,T,l,h,_,_=>by simp[bJ] at h
 |d + 1,T,  l,h,m,hm=>by
   obtain⟨m,rfl⟩:∃m',m=m'+1:=⟨m-1,vz⟩
   have ih:=fun T l h=>vL (P:=P) (w:=w) (β:=β) (hp:=hp) d T l h m vz
   have one:∀n,P.underlying T=some .bool\/(∃k,P.underlying T=some (.int k))\/P.underlying T=some .string->vt P T≠some (some n):=by
    intro n h;unfold vt;rcases h with h|⟨k,h⟩|h<;>rw[h]<;>cases P.info? T<;>simp
   unfold bJ at h;split at h
   ·rename_i hu;simp at h;subst h;refine⟨fun _ x y vx vy b hx hy hb=>?_,fun n hn=>absurd hn (one n (.inl hu))⟩;obtain⟨a,c,rfl,rfl,rfl⟩:=RH (vK hb);obtain rfl:=Qk hx;obtain rfl:=Qk hy;simp[Op.equalIn,run_underlying hu]
   ·rename_i k hu;simp at h;subst h;refine⟨fun _ x y vx vy b hx hy hb=>?_,fun n hn=>absurd hn (one n (.inr (.inl ⟨k,hu⟩)))⟩;obtain⟨k,a,c,rfl,rfl,rfl⟩:=RI (vK hb);obtain rfl:=Qk hx;obtain rfl:=Qk hy;simp[Op.equalIn,run_underlying hu]
   ·rename_i hu;simp at h;subst h;refine⟨fun _ x y vx vy b hx hy hb=>?_,fun n hn=>absurd hn (one n (.inr (.inr hu)))⟩;obtain⟨a,c,rfl,rfl,rfl⟩:=RJ (vK hb);obtain rfl:=jH hx;obtain rfl:=jH hy;have hl:∀l:List UInt8,(⟨l.toArray⟩:ByteArray).toList=l:=fun l=>by rw[ByteArray.toList_eq]
    rw[run_equalIn_string w m T _ _ hu];simp[hl]
   ·rename_i fs hu;split at h
    ·simp at h
    ·rename_i hst;refine⟨fun ht=>absurd ht (DA hu),fun n hn xs ys vs us b hx hy hb=>?_⟩;have hf:P.underlying T=some (.struct (P.fieldsOf T)):=by simp[Program.fieldsOf,hu]
     rw[run_equalIn_struct w m T vs us hf (by simpa using hst)];have hfs:(P.fieldsOf T)=fs:=by simp[Program.fieldsOf,hu]
     rw[hfs];generalize fs.toList=fl at h;clear hfs hf hu hn;induction fl generalizing l b with
     |nil=>simp at h;subst h;simp[QZ] at hb;subst hb;simp[Op.eqFields]
     |cons f fl ihf =>
       simp only[Kd] at h;split at h
       ·rename_i a r ha hr;simp at h;subst h;obtain⟨b1,b2,e1,e2,rfl⟩:=Dy hb;split at ha
        ·simp at ha
        ·rename_i hname;obtain⟨vx,vy,p1,p2,p3⟩:=DD (m:=m) ha rfl (fun l h=>(ih _ l h).1) (fun l n h hn=>(ih _ l h).2 n hn) hx hy e1;simp only[Op.eqFields,ne_eq,hname,not_false_iff,if_true,Sem.run_bind,p1,p2,p3,Result.andThen_ok,Sem.run_ite];cases b1
         ·simp
         ·simpa using ihf _ _ e2 hr
       ·simp at h
   ·rename_i n e hu;split at h
    ·rename_i i hi;refine⟨fun ht=>absurd ht (DB hu),fun n' hn xs ys vs us b hx hy hb=>?_⟩
     have hrun : ∀(js:List Nat) (l:List (Nat × Nat)) (b:Bool),js.foldr (fun j r=>match oL P e (j * i.size) (bJ P d e),r with|some a,some b=>some (a ++ b)|_,_=>none) (some []) = some l->QZ xs ys l = some b ->
      (do let r <- forIn js ((none,()):Option Bool × Unit) (fun j _=>do
           if (!(<- Op.equalIn m e (<- part e vs (j*i.size)) (<- part e us (j*i.size))))=true then pure (.done (some false,())) else pure (.yield (none,())))
          match r.fst with | some a=>pure a | none=>pure true:Sem Bool).run P w=.ok b w:=by
      intro js;induction js with
      |nil=>intro l b hl hb;simp at hl;subst hl;simp[QZ] at hb;subst hb;simp
      |cons j js ihj =>
        intro l b hl hb;simp only[Kd] at hl;split at hl
        ·rename_i a r ha hr;simp at hl;subst hl;obtain⟨b1,b2,e1,e2,rfl⟩:=Dy hb;obtain⟨vx,vy,p1,p2,p3⟩:=DD (m:=m) ha rfl (fun l h=>(ih _ l h).1) (fun l n h hn=>(ih _ l h).2 n hn) hx hy e1;have:=ihj _ _ hr e2;simp only[Ke,Sem.run_bind,p1,p2,p3,Result.andThen_ok,Sem.run_ite] at this |-;cases b1
         ·simp
         ·simpa using this
        ·simp at hl
     have:=hrun _ _ _ h hb;simp only[Op.equalIn,Sem.run_bind,run_underlying hu,Result.andThen_ok,sizeOf,typeInfo,run_program,hi,Sem.run_pure];simp[Std.Legacy.Range.forIn_eq_forIn_range',Std.Legacy.Range.size] at this |-;refine Eq.trans ?_ this;congr 1;funext r w';obtain⟨r,u⟩:=r;cases r<;>rfl
    ·simp at h
   ·simp at h
end Go.V
namespace Go.V
def mk(z:List DV):Nat->List DV
 |0=>[]
 |n+1=>z++mk z n
def fK(z:List DV)(n:Nat):(mk z n).length=n*z.length:=by
 induction n with
 |zero=>simp[mk]
 |succ n ih=>simp[mk,ih,Jr];omega
def DE (hz:0 < z.length):∀(n i:Nat),i < n * z.length->(mk z n)[i]? = z[i % z.length]?
 |0,i,h=>by simp at h
 |n + 1,i,h=>by
   simp only[mk];rw[Ji];split
   ·rename_i hi;rw[J7 hi]
   ·rename_i hi;rw[DE hz n _ (by rw[Jr] at h;omega)];congr 1;have:i=(i-z.length)+z.length:=vz;rw[this,J3,J4]
def RK(ha:Qp a=true)(hb:Qp b=true):Qp (a++b)=true:=by
 induction a with
 |nil=>exact hb
 |cons x r ih=>simp only[Qp,Jw] at ha;simp[Qp,ha.1,ih ha.2]
def mH(hz:Qp z=true)(n:Nat):Qp (mk z n)=true:=by
 induction n with
 |zero=>rfl
 |succ n ih=>exact RK hz ih
def mI(h:RelL w β hp z zv)(hz:0<z.length)(l n:Nat)(hl:l*z.length<=n):
 (mk z l).length<=(madeCells zv n).size/\∀(i:Nat) (d:DV),(mk z l)[i]?=some d->RelD w β hp d ((madeCells zv n).getD i undef):=by
 refine⟨by simp[fK,size_madeCells,hl],fun i d hi=>?_⟩;have hlt:i<l*z.length:=by rw[<-fK];exact(Ja.1 hi).1
 rw[DE hz l i hlt] at hi;have h2:=h.2 _ _ hi;have hs:zv.size=z.length:=h.1.symm;have hin:i<n:=vz
 have e:(madeCells zv n).getD i undef=zv.getD (i % z.length) undef:=by
  have hm:i % z.length<zv.size:=by rw[hs];exact Nat.mod_lt _ hz
  simp[madeCells,Jb,hin,hs];rw[getElem!_pos zv _ hm];simp[hm]
 grind
def bI(P:Program)(T:TypeId):Option Nat:=(P.info? T).map (·.bytes)
def oM(h:bI P T=some n):∃i,P.info? T=some i/\i.bytes=n:=by
 unfold bI at h;cases hi:P.info? T with
 |none=>simp[hi] at h
 |some i=>exact⟨i,rfl,by simpa [hi] using h⟩
def oN (P:Program) (hp:Qb) (T:TypeId) (l c:DV):Option (DV × Qb) :=
 match l,c with
 |.pv (.lit (.int _ l)),.pv (.lit (.int _ c)) =>
   match QL P T with
   |some (none,e,sz) =>
     match QO P e,bI P e with
     |some z,some by_ =>
       if 0<=l/\l<=c/\(by_:Int)*c<=281474976710656/\c<=9223372036854775807/\z.length=sz/\0<sz/\Qp z=true then some (.own hp.length sz 0 l.toNat,hp++[⟨e,true,mk z l.toNat⟩]) else none
     |_,_=>none
   |_=>none
 |_,_=>none
def RL(hh:HeapRel w β hp)(hl:RelD w β hp l lv)(hc:RelD w β hp c cv)(h:oN P hp T l c=some (d,hp')):
 Does P w β hp (Instr.makeSlice T lv cv) d hp':=by
 unfold oN at h;split at h
 ·rename_i kl l kc c;obtain rfl:=Qk hl;obtain rfl:=Qk hc;split at h
  ·rename_i e sz he;split at h
   ·rename_i z by_ hz hib;obtain⟨i,hi,rfl⟩:=oM hib;split at h
    ·rename_i hcond;simp at h;obtain⟨rfl,rfl⟩:=h;obtain⟨h0,hlc,hby,h63,hzl,hsz,hone⟩:=hcond;obtain⟨hu,i',hi',hs⟩:=Qq he;rw[hi] at hi';simp at hi';subst hi';obtain⟨zv,_,⟨i2,hi2,hz2⟩,hrel⟩:=gZ hz w β hp;rw[hi] at hi2;simp at hi2;subst hi2;have hr:=run_make (P:=P) w T e i zv hu hi hz2 kl kc l c h0 hlc hby h63;rw[hs] at hr;have hle:l.toNat*z.length<=c.toNat*sz:=by rw[hzl];exact Je _ vz
     obtain⟨hm1,hm2⟩:=mI hrel vz l.toNat (c.toNat*sz) hle
     obtain⟨ev,hh'⟩:=rV (w1:=w.alloc (.cells (madeCells zv.cells (c.toNat*sz)) e)) hh e (madeCells zv.cells (c.toNat*sz)) (mk z l.toNat) rfl rfl rfl rfl hm1
      (fun i d hd=>⟨mE (mH hone _) i d hd,hm2 i d hd⟩)
     refine⟨_,_,_,hr,ev,hh',?_⟩;exact .own _ _ _ _ _ w.heap.size (madeCells zv.cells (c.toNat*sz)) e _ vv (by simp[ext]) vz (by simp[maxLen];omega) (heap_alloc_new w _) (by simp[size_madeCells])
    ·simp at h
   ·simp at h
  ·simp at h
 ·simp at h
def mJ (P:Program) (hp:Qb) (T:TypeId) (n:Nat) (ps:List (Nat × DV)):Option (DV × Qb) :=
 match QL P T with
 |some (none,e,sz) =>
   match QO P e with
   |some z =>
     if z.length=sz/\0<sz/\Qp z=true/\n*sz<=16777216 then
      (fJ (fun i=>some (i*sz,sz)) (mk z n) ps).map fun cs=>(.own hp.length sz 0 n,hp++[⟨e,true,cs⟩])
     else none
   |none=>none
 |_=>none
def RM (hh:HeapRel w β hp) (hl:ps.length = qs.toList.length) (hr:∀(i:Nat) (p:Nat × DV),ps[i]? = some p->∃q,qs.toList[i]? = some q/\q.1 = p.1/\RelD w β hp p.2 q.2) (h:mJ P hp T n ps = some (d,hp')):
 Does P w β hp (Instr.buildSlice T n qs) d hp':=by
 unfold mJ at h;split at h
 ·rename_i e sz he;split at h
  ·rename_i z hz;split at h
   ·rename_i hc;obtain⟨hzl,hsz,hone,hn⟩:=hc;cases hv:fJ (fun i=>some (i*sz,sz)) (mk z n) ps with
    |none=>simp[hv] at h
    |some cs =>
      simp[hv] at h;obtain⟨rfl,rfl⟩:=h;obtain⟨hu,i,hi,hs⟩:=Qq he;obtain⟨zv,hz1,_,hrel⟩:=gZ hz w β hp;obtain⟨hm1,hm2⟩:=mI hrel vz n (n*sz) (by rw[hzl];exact Jd _);have hrl:RelL w β hp (mk z n) (madeCells zv.cells (n*sz)):=⟨by rw[fK,size_madeCells,hzl],hm2⟩
      obtain⟨us,e1,e2,e3⟩:=vI hrl (mH hone n) hl hr hv
      have hlen:cs.length = n * sz:=by
       have hfl:∀(ps:List (Nat × DV)) (a b:List DV),fJ (fun i=>some (i * sz,sz)) a ps = some b->b.length = a.length:=by
        intro ps;induction ps with
        |nil=>intro a b h;simp[fJ] at h;rw[h]
        |cons p ps ih =>
          intro a b h;obtain⟨j,d⟩:=p;simp only[fJ] at h;split at h
          ·rename_i hc;have:=ih _ _ h;rw[this];simp[splice,hc.1];omega
          ·simp at h
       rw[hfl _ _ _ hv,fK,hzl]
      obtain⟨ev,hh'⟩:=rV (w1:=w.alloc (.cells us e)) hh e us cs rfl rfl rfl rfl (by rw[e2.1];exact Jd _) (e2.one e3);refine⟨.slice (some ⟨w.heap.size,0,none⟩) n n,w.alloc (.cells us e),_,?_,ev,hh',?_⟩
      ·have hb:¬n * sz > 2 ^ 24:=vz;simp only[Instr.buildSlice,Sem.run_bind,run_underlying hu,Result.andThen_ok,sizeOf,typeInfo,run_program,hi,Sem.run_pure,hs,hb,if_false];unfold madeCells at e1;by_cases h0:n*sz=0
       ·simp only [h0,Array.range_zero',List.map_toArray] at e1 |-;rw[List.map_nil] at e1;simp[e1,newRow]
       ·simp[h0,hz1,e1,newRow]
      ·have hsz2:us.size = n * sz:=by rw [<-e2.1,hlen]
       have hnm:n<=maxLen:=by
        have:n<=n*sz:=Jp n hsz;simp[maxLen];omega
       exact .own _ _ _ _ _ w.heap.size us e _ vv (by simp[ext]) (Jd _) hnm (heap_alloc_new w _) (by simp[hsz2])
   ·simp at h
  ·simp at h
 ·simp at h
def pvs(xs:List (List PV)):List DV:=xs.flatten.map .pv
def dM (hp:Qb) (sz:Nat):DV->Option (Nat × List DV)
 |.own k sz' off len =>
   match Qc hp k with
   |some cs=>if sz'=sz/\off+len*sz<=cs.length then some (len,(cs.drop off).take (len*sz)) else none
   |none=>none
 |.pv (.str l)=>if sz=1 then some (l.length,l.map fun b=>.int .u8 b.toNat) else none
 |.pv (.lit (.slice _ 0 _))=>some (0,[])
 |x =>
   match cX x with
   |some xs=>if xs=[]\/(xs[0]?.map JR)=some sz then some (xs.length,pvs xs) else none
   |none=>none
def DG(c:List PV)(xs:List (List PV)):pvs (c::xs)=c.map .pv++pvs xs:=by simp[pvs]
def vM (h:∀(i:Nat) (c:List PV),xs[i]? = some c->c.length = sz):(pvs xs).length = xs.length * sz:=by
 induction xs with
 |nil=>simp[pvs]
 |cons c xs ih =>
   rw[DG,Jy,ih (fun i c hc=>h (i+1) c (by simpa using hc)),Kf,h 0 c rfl,Js,Jr];omega
def DH (hsz:0 < sz) (h:∀(i:Nat) (c:List PV),xs[i]? = some c->c.length = sz) (hj:(pvs xs)[j]? = some d):
 ∃c p,xs[j / sz]?=some c/\c[j % sz]?=some p/\d=.pv p:=by
 induction xs generalizing j with
 |nil=>simp[pvs] at hj
 |cons c xs ih =>
   have hc:=h 0 c rfl;rw[DG,Ji,Kf,hc] at hj;split at hj
   ·rename_i hlt;rw[Nat.div_eq_of_lt hlt,J7 hlt];rw[Jl] at hj;cases hcj:c[j]? with
    |none=>simp[hcj] at hj
    |some p=>simp[hcj] at hj;exact⟨c,p,rfl,hcj,hj.symm⟩
   ·rename_i hge;obtain⟨c',p,h1,h2,h3⟩:=ih (fun i c hc=>h (i+1) c (by simpa using hc)) hj;refine⟨c',p,?_,?_,h3⟩
    ·have:j / sz = (j - sz) / sz + 1:=by
      rw[<-Nat.add_div_right _ hsz];congr 1;omega
     rw[this];simpa using h1
    ·have:j % sz = (j - sz) % sz:=by
      have:j=(j-sz)+sz:=vz;rw[this,J4,J3]
     rw[this];exact h2
def mK (hh:HeapRel w β hp) (hsz:0 < sz) (hx:RelD w β hp x v) (h:dM hp sz x = some (n,cs)):
 (Builtin.lenOf v).run P w=.ok n w/\cs.length=n*sz/\(∀d∈cs,d.one=true)/\∀m,m<=n->∃vs:Array Value,(Builtin.firstCells sz m v).run P w=.ok vs w/\RelL w β hp (cs.take (m*sz)) vs:=by
 unfold dM at h;split at h
 ·rename_i k sz' off len;split at h
  ·rename_i bs hb;split at h
   ·rename_i hc;simp at h;obtain⟨rfl,rfl⟩:=h;obtain⟨rfl,hfit⟩:=hc;cases hx with
    |own0 _ _ a hk hm ha =>
      refine⟨by simp[Builtin.lenOf],vv,vv,fun m hm=>?_⟩;have:m=0:=vz;subst this;refine⟨#[],?_,by simp[RelL]⟩;cases a<;>simp[Builtin.firstCells,loadCells,loadCellsFrom]
    |own _ _ _ _ cap b C T m hk hm h1 h2 h3 h4 =>
      obtain⟨B,⟨C',m',hm'⟩,g1,g2,g3,g4,g5,g6⟩:=gu hh hb hm;rw[h3] at g4;simp at g4;obtain⟨hCC,rfl,rfl⟩:=g4;subst hCC;have g5:_<=C.size:=g5;refine⟨by simp[Builtin.lenOf],vg,fun d hd=>?_,fun m hmn=>?_⟩
      ·obtain ⟨i,hi⟩:=Jo.1 (JH (Jq hd));exact(g6 i d hi).1
      have hms:m*sz'<=len*sz':=Je _ hmn
      have hcell:∀j,j<m*sz'->w.cell? ((⟨b,off,none⟩:Addr).add j)=some (C.getD (off+j) undef):=fun j hj=>by
       rw[gq];exact iQ h3 vz
      have hr:=run_loadCells (P:=P) w ⟨b,off,none⟩ (m*sz') (fun j=>C.getD (off+j) undef) hcell;refine⟨((JJ (m*sz')).map fun j=>C.getD (off+j) undef).toArray,by simpa [Builtin.firstCells] using hr,vg,fun i d hi=>?_⟩;rw[Jc] at hi;split at hi
      ·rename_i hlt;rw[Jc,if_pos vz,Jf] at hi;have:=(g6 _ _ hi).2;simpa [hlt] using this
      ·simp at hi
   ·simp at h
  ·simp at h
 ·rename_i l;split at h
  ·rename_i h1;simp at h;obtain⟨rfl,rfl⟩:=h;subst h1;obtain rfl:=jH hx;refine⟨by simp[Builtin.lenOf,ByteArray.size],vv,by simp[DV.one],fun m hm=>?_⟩;refine⟨((⟨l.toArray⟩:ByteArray).extract 0 m).data.map fun b=>.int .u8 b.toNat,by simp[Builtin.firstCells],?_,fun i d hi=>?_⟩
   ·rw[vJ];simp
   ·rw [vJ];rw[Jc] at hi;split at hi
    ·rename_i hlt;rw[Jl] at hi;cases hli:l[i]? with
     |none=>simp[hli] at hi
     |some b =>
       simp[hli] at hi;subst hi
       have hv:(Array.map (fun b:UInt8=>Value.int .u8 b.toNat) ((l.take m).drop 0).toArray).getD i undef=Value.int .u8 b.toNat:=by
        simp only[Jb,Array.getElem?_map,Ki,JG,Jc,if_pos (show i<m by omega),hli];rfl
       rw[hv];exact .pv _ _ (.lit _ rfl)
    ·simp at hi
  ·simp at h
 ·rename_i a c;simp at h;obtain⟨rfl,rfl⟩:=h;obtain rfl:=Qk hx;refine⟨by simp[Builtin.lenOf],vv,vv,fun m hm=>?_⟩;have:m=0:=vz;subst this;refine⟨#[],?_,by simp[RelL]⟩;cases a<;>simp[Builtin.firstCells,loadCells,loadCellsFrom]
 ·rename_i hn1 hn2 hn3;split at h
  ·rename_i xs hs;split at h
   ·rename_i hc;simp at h;obtain⟨rfl,rfl⟩:=h;obtain⟨a,cap,sz2,val,rfl,h1,h2,h3,h4,h5,h6,_⟩:=mG hx hs
    have h3':∀(i:Nat) (c:List PV),xs[i]? = some c->c.length = sz:=by
     rcases hc with rfl|hc
     ·simp
     ·cases hx0:xs[0]? with
      |none=>simp[hx0] at hc
      |some c0 =>
        simp[hx0] at hc;intro i c hci;rw[h3 i c hci,<-h3 0 c0 hx0,hc]
    have hsz2:xs≠[]->sz2=sz:=by
     intro hne;cases xs with
     |nil=>exact absurd rfl hne
     |cons c r=>rw[<-h3 0 c rfl];exact h3' 0 c rfl
    refine⟨by simp[Builtin.lenOf],vM h3',fun d hd=>by obtain⟨p,_,rfl⟩:=List.mem_map.1 hd;rfl,fun m hm=>?_⟩;cases a with
    |none =>
      have hx0:xs = []:=by
       cases xs with
       |nil=>rfl
       |cons c r =>
         have hcl:=h3' 0 c rfl;obtain⟨ad,e,_⟩:=h5 0 0 c c[0] rfl (Jm vz);simp at e
      subst hx0;simp at hm;subst hm;exact⟨#[],by simp[Builtin.firstCells],by simp[RelL,pvs]⟩
    |some ad =>
      have hcell:∀j,j<m*sz->w.cell? (ad.add j)=some (val (j / sz) (j % sz)):=fun j hj=>by
       have hjx:j<(pvs xs).length:=by
        rw[vM h3'];have:m*sz<=xs.length*sz:=Je _ hm;omega
       obtain⟨c,p,e1,e2,_⟩:=DH hsz h3' (Jm hjx);obtain⟨ad',e,_,_,hv⟩:=h5 _ _ _ _ e1 e2;simp at e;subst e;have hne:xs≠[]:=by intro h0;simp[h0] at e1
       rw[hsz2 hne] at hv;have hdm:j / sz*sz+j % sz=j:=Nat.div_add_mod' j sz;rw[hdm] at hv;have hcap:0<cap:=by have:=List.length_pos_iff.2 hne;omega
       rw[kV (h4 ad rfl hcap)];exact hv
      have hr:=run_loadCells (P:=P) w ad (m*sz) (fun j=>val (j / sz) (j % sz)) hcell;refine⟨((JJ (m*sz)).map fun j=>val (j / sz) (j % sz)).toArray,by simpa [Builtin.firstCells] using hr,?_,fun i d hi=>?_⟩
      ·have:m * sz<=xs.length * sz:=Je _ hm;rw[J8,vM h3',Nat.min_eq_left this];simp
      ·rw [Jc] at hi;split at hi
       ·rename_i hlt;obtain⟨c,p,e1,e2,rfl⟩:=DH hsz h3' hi;have:=RelD.pv (β:=β) p _ (h6 _ _ _ _ e1 e2);simpa [hlt] using this
       ·simp at hi
   ·simp at h
  ·simp at h
def kill(hp:Qb)(k:Nat):Qb:=
 match hp[k]? with
 |some B=>hp.set k { B with live:=false,cells:=[] }
 |none=>hp
def bX(P:Program)(T:TypeId):Bool:=
 match P.underlying T with
 |some (.slice _)|some .string=>true
 |_=>false
def DI(h:bX P T=true):(∃e,P.underlying T=some (.slice e))\/P.underlying T=some .string:=by
 unfold bX at h;grind
def vN (hp:Qb) (e:TypeId) (sz m:Nat):DV->Option (Nat × List DV × Qb)
 |.own k sz' 0 n =>
   match hp[k]? with
   |some B=>if B.live=true/\B.ty=e/\sz'=sz/\n*sz<=B.cells.length then some (n,B.cells.take (n*sz),kill hp k) else none
   |none=>none
 |.pv (.slc xs)=>if (xs=[]\/(xs[0]?.map JR)=some sz)/\(xs=[]\/0<m) then some (xs.length,pvs xs,hp) else none
 |_=>none
def kY (P:Program) (hp:Qb) (sT xT:TypeId) (s x:DV):Option (DV × Qb) :=
 match QL P sT with
 |some (none,e,sz) =>
   match bI P e,QO P e,dM hp sz x with
   |some by_,some z,some (m,news) =>
     match vN hp e sz m s with
     |some (n,olds,hp1) =>
       if bX P xT=true/\0<sz/\z.length=sz/\0<by_/\(n+m)*by_<=140737488355328 then some (.own hp.length sz 0 (n+m),hp1++[⟨e,true,olds++news⟩]) else none
     |none=>none
   |_,_,_=>none
 |_=>none
def ia(w:World)(β:Map)(hp:Qb):Evo w β hp w.drew β hp:=⟨rfl,rfl,rfl,Jd _,Jd _,fun _ _=>rfl,fun _ _ _=>rfl,fun _ C _ m h=>⟨C,m,h,rfl⟩,fun _ _ h=>h,rfl⟩
def oO(w:World)(β:Map)(hp:Qb):Evo w.drew β hp w β hp:=⟨rfl,rfl,rfl,Jd _,Jd _,fun _ _=>rfl,fun _ _ _=>rfl,fun _ C _ m h=>⟨C,m,h,rfl⟩,fun _ _ h=>h,rfl⟩
def HeapRel.drew(h:HeapRel w β hp):HeapRel w.drew β hp:=
 ⟨fun k B b h1 h2 h3=>by
  obtain⟨C,g1,g2,g3⟩:=h.blk k B b h1 h2 h3
  exact⟨C,g1,g2,fun i d hd=>⟨(g3 i d hd).1,(g3 i d hd).2.mono (ia w β hp)⟩⟩,h.none,h.inj,h.avoid,h.bound⟩
def rX(hu:P.underlying sT=some (.slice e))(hx:bX P xT=true)(hi:P.info? e=some i)(hz:i.zero=some z)(hlen:(Builtin.lenOf x).run P w=.ok m w)(h1:(Builtin.firstCells i.size n (.slice a n cap)).run P w.drew=.ok olds w.drew)(h2:(Builtin.firstCells i.size m x).run P w.drew=.ok news w.drew)(hg:cap<n+m)(hb:0<i.bytes)(hby:(n+m)*i.bytes<=140737488355328):
 (Builtin.append_ #[sT,xT] ty #[.slice a n cap,x]).run P w = .ok (.slice (some ⟨w.heap.size,0,none⟩) (n + m) (grownCap w (n + m) cap e))
  (w.drew.alloc (.cells (olds++news++Builtin.zeroCells z.cells (grownCap w (n+m) cap e-(n+m))) e)):=by
 have hle:n+m<=(n+m)*i.bytes:=Jp _ hb;have hn:¬(n+m<=cap):=vz;have h63':¬(9223372036854775807<((n:Int)+(m:Int))):=vz;have h48':¬(281474976710656<Builtin.nextslicecap (n+m) cap*i.bytes):=by have:=growslice_fits hg hby;omega
 clear hle hby hg hb
 rcases DI hx with⟨e',hd⟩|hd <;>
  simp[Builtin.append_,run_underlying hu,run_underlying hd,sizeOf,typeInfo,zeroValue,hi,hz,hlen,hn,h63',h48',Question.forced,h1,h2,newRow,grownCap]
def oP(hu:P.underlying sT=some (.slice e))(hx:bX P xT=true)(hi:P.info? e=some i)(hlen:(Builtin.lenOf x).run P w=.ok m w)(h2:(Builtin.firstCells i.size m x).run P w=.ok news w)(hg:n+m<=cap)(hs:∀ad,a=some ad->(storeCells (ad.add (n*i.size)) news.toList).run P w=.ok () w')(hn:a=none->w'=w):
 (Builtin.append_ #[sT,xT] ty #[.slice a n cap,x]).run P w=.ok (.slice a (n+m) cap) w':=by
 rcases DI hx with⟨e',hd⟩|hd<;>cases a with
 |none=>have:=hn rfl;subst this;simp[Builtin.append_,run_underlying hu,run_underlying hd,sizeOf,typeInfo,hi,hlen,hg,h2]
 |some ad=>simp[Builtin.append_,run_underlying hu,run_underlying hd,sizeOf,typeInfo,hi,hlen,hg,h2,hs ad rfl]
def QP(hp:Qb)(k:Nat):(kill hp k).length=hp.length:=by unfold kill;split<;>simp
def fb(h1:(kill hp k)[j]?=some D)(h2:D.live=true):j≠k/\hp[j]?=some D:=by
 unfold kill at h1;grind
def DJ(h:live β (kill hp k) b):live β hp b:=by
 obtain⟨j,D,h1,h2,h3⟩:=h;exact⟨j,D,(fb h1 h2).2,h2,h3⟩
def RN(hp:Qb)(k:Nat)(B:Blk)(cs:List DV)(hk:hp[k]?=some B):kill (hp.set k { B with cells:=cs }) k=kill hp k:=by
 have hlt:k<hp.length:=(Ja.1 hk).1;unfold kill;rw[Jn hlt,hk];simp
def RO(h:HeapRel w β hp)(k:Nat):HeapRel w β (kill hp k)/\Evo w β hp w β (kill hp k):=by
 have e:Evo w β hp w β (kill hp k):=⟨rfl,rfl,rfl,Jd _,by rw[QP];exact Jd _,fun _ _=>rfl,fun _ _ _=>rfl,fun _ C _ m h=>⟨C,m,h,rfl⟩,fun _ _ h=>DJ h,rfl⟩
 refine⟨⟨fun j D b hj hD hb=>?_,fun j D hj hD hb=>h.none j D (fb hj hD).2 hD hb,fun i j D D' b hi hj hD hD' h1 h2=>h.inj i j D D' b (fb hi hD).2 (fb hj hD').2 hD hD' h1 h2,fun j D b hj hD hb=>h.avoid j D b (fb hj hD).2 hD hb,h.bound⟩,e⟩;obtain⟨C,g1,g2,g3⟩:=h.blk j D b (fb hj hD).2 hD hb;exact⟨C,g1,g2,fun i d hd=>⟨(g3 i d hd).1,(g3 i d hd).2.mono e⟩⟩
def DK(h:HeapRel w β hp)(hk:hp[k]?=some B)(hB:B.live=true):
 Evo w β hp w (ext β hp.length (β.f k)) (kill hp k++[B])/\HeapRel w (ext β hp.length (β.f k)) (kill hp k++[B]):=by
 have at_:∀{j:Nat} {D:Blk},(kill hp k++[B])[j]?=some D->D.live=true->(j<hp.length/\j≠k/\hp[j]?=some D/\(ext β hp.length (β.f k)).f j=β.f j)\/(j=hp.length/\D=B/\(ext β hp.length (β.f k)).f j=β.f k):=fun {j D} h h2=>by
  rcases JF j hp.length with hlt|heq|hgt
  ·rw [Jh (by rw [QP];exact hlt)] at h;exact .inl ⟨hlt,(fb h h2).1,(fb h h2).2,cG hlt⟩
  ·subst heq;rw[Jk (by rw[QP];exact Jd _)] at h;simp[QP] at h;exact .inr ⟨rfl,h.symm,by simp[ext]⟩
  ·rw [Jk (by rw [QP];omega),Ju (by simp [QP];omega)] at h;simp at h
 have e:Evo w β hp w (ext β hp.length (β.f k)) (kill hp k++[B]):=by
  refine⟨rfl,rfl,rfl,Jd _,by simp[QP],fun j hj=>cG hj,fun _ _ _=>rfl,fun _ C _ m h=>⟨C,m,h,rfl⟩,fun b _ hb=>?_,rfl⟩;obtain⟨j,D,g1,g2,g3⟩:=hb;rcases at_ g1 g2 with⟨_,_,hj,he⟩|⟨_,rfl,he⟩
  ·exact⟨j,D,hj,g2,by rw[<-he];exact g3⟩
  ·exact⟨k,D,hk,g2,by rw[<-he];exact g3⟩
 refine⟨e,⟨fun j D b hj hD hb=>?_,fun j D hj hD hb=>?_,fun i j D D' b hi hj hD hD' h1 h2=>?_,fun j D b hj hD hb=>?_,h.bound⟩⟩
 ·rcases at_ hj hD with ⟨_,_,hj,he⟩|⟨_,rfl,he⟩
  ·obtain ⟨C,g1,g2,g3⟩:=h.blk j D b hj hD (by rw [<-he];exact hb);exact⟨C,g1,g2,fun i d hd=>⟨(g3 i d hd).1,(g3 i d hd).2.mono e⟩⟩
  ·obtain ⟨C,g1,g2,g3⟩:=h.blk k D b hk hD (by rw [<-he];exact hb);exact⟨C,g1,g2,fun i d hd=>⟨(g3 i d hd).1,(g3 i d hd).2.mono e⟩⟩
 ·rcases at_ hj hD with ⟨_,_,hj,he⟩|⟨_,rfl,he⟩
  ·exact h.none j D hj hD (by rw[<-he];exact hb)
  ·exact h.none k D hk hD (by rw[<-he];exact hb)
 ·rcases at_ hi hD with ⟨_,hik,hi',hie⟩|⟨rfl,rfl,hie⟩<;>rcases at_ hj hD' with ⟨_,hjk,hj',hje⟩|⟨rfl,rfl,hje⟩
  ·exact h.inj i j D D' b hi' hj' hD hD' (by rw[<-hie];exact h1) (by rw[<-hje];exact h2)
  ·exact absurd (h.inj i k D _ b hi' hk hD hB (by rw[<-hie];exact h1) (by rw[<-hje];exact h2)) hik
  ·exact absurd (h.inj j k D' _ b hj' hk hD' hB (by rw[<-hje];exact h2) (by rw[<-hie];exact h1)) hjk
  ·rfl
 ·rcases at_ hj hD with ⟨_,_,hj,he⟩|⟨_,rfl,he⟩
  ·exact h.avoid j D b hj hD (by rw[<-he];exact hb)
  ·exact h.avoid k D b hk hD (by rw[<-he];exact hb)
def mL (hh1:HeapRel w β hp1) (e1:Evo w β hp w β hp1) (hlen:hp1.length = hp.length) {z:Value} (ho:RelL w β hp olds ov) (hn:RelL w β hp news nv) (hone:∀d ∈ olds ++ news,d.one = true) (hol:olds.length = n * sz) (hnl:news.length = m * sz) (hz:z.cells.size = sz) (hm:n + m<=maxLen) (w1:World) (hw1:w1 = w.drew.alloc (.cells (ov ++ nv ++ Builtin.zeroCells z.cells (grownCap w (n + m) cap e - (n + m))) e)):
 ∃β',Evo w β hp w1 β' (hp1 ++ [⟨e,true,olds ++ news⟩])/\HeapRel w1 β' (hp1 ++ [⟨e,true,olds ++ news⟩]) /\
   RelD w1 β' (hp1++[⟨e,true,olds++news⟩]) (.own hp.length sz 0 (n+m)) (.slice (some ⟨w.heap.size,0,none⟩) (n+m) (grownCap w (n+m) cap e)):=by
 have hge:=grownCap_ge w (n+m) cap e;have hcm:=grownCap_le_maxLen w (n+m) cap e hm;generalize grownCap w (n+m) cap e=gc at hw1 hge hcm |-
 have hsz:(ov++nv++Builtin.zeroCells z.cells (gc-(n+m))).size=gc*sz:=by
  simp only[Array.size_append,size_zeroCells,hz,<-ho.1,<-hn.1,hol,hnl,<-Jr];congr 1;omega
 have h1:=ho.1;have h2:=hn.1
 have hget:∀i,i<(olds++news).length->(ov++nv++Builtin.zeroCells z.cells (gc-(n+m))).getD i undef=if i<olds.length then ov.getD i undef else nv.getD (i-olds.length) undef:=by
  intro i hi;simp at hi;simp only[Jb];rw[JM vg,Array.getElem?_append];rw[h1];split<;>rfl
 generalize ov++nv++Builtin.zeroCells z.cells (gc-(n+m))=C at hw1 hsz hget
 have hl:(olds++news).length<=C.size:=by
  rw[hsz,Jy,hol,hnl,<-Jr];exact Je _ hge
 have hc:∀(i:Nat) (d:DV),(olds++news)[i]?=some d->d.one=true/\RelD w β hp1 d (C.getD i undef):=by
  intro i d hd;refine⟨hone d (Jo.2 ⟨i,hd⟩),?_⟩;rw[hget i (Ja.1 hd).1];rw[Ji] at hd;split at hd
  ·rename_i hlt;rw[if_pos hlt];exact(ho.2 i d hd).mono e1
  ·rename_i hlt;rw[if_neg hlt];exact(hn.2 _ d hd).mono e1
 subst hw1;obtain⟨ev,hh'⟩:=rV (w1:=w.drew.alloc (.cells C e)) hh1 e C (olds++news) rfl rfl rfl rfl hl hc;refine⟨_,e1.trans ev,hh',?_⟩;rw[<-hlen];exact .own _ _ _ _ _ w.heap.size C e _ vv (by simp[ext]) hge hcm (heap_alloc_new w.drew _) (by rw[hsz];simp)
def RP (hh:HeapRel w β hp) (hu:P.underlying sT = some (.slice e)) (hni:bX P xT = true) (hi:P.info? e = some i) (hz:i.zero = some zv) (hzs:zv.cells.size = i.size) (_hszp:0 < i.size) (hbp:0 < i.bytes) (hby:(n + m) * i.bytes<=140737488355328) (hk:hp[k]? = some B) (hl:B.live = true) (hty:B.ty = e) (hfit:n * i.size<=B.cells.length) (hs:RelD w β hp (.own k i.size 0 n) sv) (hlen:(Builtin.lenOf xv).run P w = .ok m w) (hnl:news.length = m * i.size) (hone:∀d ∈ news,d.one = true) (hnv:(Builtin.firstCells i.size m xv).run P w = .ok nv w) (hnr:RelL w β hp news nv) (hnv':(Builtin.firstCells i.size m xv).run P w.drew = .ok nv' w.drew) (hnr':RelL w β hp news nv') (hmax:n + m<=maxLen):
 Does P w β hp (Builtin.append_ #[sT,xT] ty #[sv,xv]) (.own hp.length i.size 0 (n+m)) (kill hp k++[⟨e,true,B.cells.take (n*i.size)++news⟩]):=by
 subst hty;obtain⟨hh1,e1⟩:=RO hh k;have hklt:k<hp.length:=(Ja.1 hk).1;cases hs with
 |own0 _ _ a _ hm ha =>
   have hcn:=hh.none k B hk hl hm;by_cases hm0:m=0
   ·subst hm0;have hn0:news=[]:=Jx (by simpa using hnl);subst hn0;have hnv0:nv=#[]:=by have:=hnr.1;simp at this;exact Jj this.symm
    subst hnv0;have hrun:=oP (P:=P) (w:=w) (ty:=ty) (a:=a) (n:=0) (cap:=0) (w':=w) hu hni hi hlen hnv vz (fun ad _=>by simp[storeCells]) (fun _=>rfl);obtain⟨ev,hh'⟩:=DK hh hk hl
    have hBe:B=⟨B.ty,true,B.cells.take (0*i.size)++[]⟩:=by
     obtain⟨t,l,c⟩:=B;simp at hl hcn;subst hl hcn;simp
    rw[<-hBe];refine⟨_,_,_,hrun,ev,hh',?_⟩;exact .own0 _ _ a (by simp[QP]) (by simp[ext,hm]) ha
   ·have hrun:=rX (P:=P) (w:=w) (ty:=ty) (olds:=#[]) hu hni hi hz hlen (a:=a) (n:=0) (cap:=0) (by cases a<;>simp [Builtin.firstCells,loadCells,loadCellsFrom]) hnv' vz hbp hby;obtain⟨β',g1,g2,g3⟩:=mL (cap:=0) (sz:=i.size) (e:=B.ty) (z:=zv) (n:=0) (m:=m) (olds:=[]) (ov:=#[]) hh1 e1 (QP hp k) (by simp[RelL]) hnr' (by simpa using hone) vv hnl hzs hmax _ rfl;have hnil:B.cells.take (0*i.size)++news=[]++news:=vv;rw[hnil];exact⟨_,_,β',hrun,g1,g2,g3⟩
 |own _ _ _ _ cap b C T m0 _ hm hle hcm hC hoff =>
   have hbc:Qc hp k=some B.cells:=by simp[Qc,hk,hl]
   obtain⟨B',⟨C',m',hm'⟩,q1,q2,q3,q4,q5,q6⟩:=gu hh hbc hm;rw[hk] at q1;simp at q1;subst q1;rw[hC] at q4;simp at q4;obtain⟨hCC,rfl,rfl⟩:=q4;subst hCC;have q5:_<=C.size:=q5;have hol:(B.cells.take (n*i.size)).length=n*i.size:=vg
   have holdone:∀d∈B.cells.take (n*i.size)++news,d.one=true:=fun d hd=>by
    rcases JK.1 hd with hd|hd
    ·obtain ⟨j,hj⟩:=Jo.1 (Jq hd);exact(q6 j d hj).1
    ·exact hone d hd
   by_cases hroom:n+m<=cap
   ·have hnvs:nv.size = m * i.size:=by rw [<-hnr.1,hnl]
    have hcap:n*i.size+m*i.size<=C.size:=by rw[Kl] at hoff;refine Jt ?_ hoff;rw[<-Jr];exact Je _ hroom
    have honev:∀v∈nv.toList,v.oneCell'=true:=by
     intro v hv;obtain⟨j,hj,rfl⟩:=J0 hv;have hj':j<news.length:=by simp at hj;omega
     have:=(hnr.2 j news[j] (Jm hj')).one (hone _ (List.getElem_mem hj'));have hj2:j<nv.size:=by simpa using hj
     simpa [hj2] using this
    have hst:=Dn P b (n*i.size) B.ty _ nv.toList 0 C w hC hm' vg honev;simp only[JN] at hst;have hCs:(C.toList.take (n*i.size)++nv.toList++C.toList.drop (n*i.size+nv.toList.length)).toArray.size=C.size:=vg
    have hget:∀j,j<n*i.size+m*i.size->(C.toList.take (n*i.size)++nv.toList++C.toList.drop (n*i.size+nv.toList.length)).toArray.getD j undef=if j<n*i.size then C.getD j undef else nv.getD (j-n*i.size) undef:=by
     intro j hj;have hl1:(C.toList.take (n*i.size)).length=n*i.size:=vg;simp only[Jb,JG,Jz];rw[Ji,hl1];split
     ·rename_i hlt;rw[Jc,if_pos hlt];simp
     ·rw[Jh vg];simp
    generalize (C.toList.take (n*i.size)++nv.toList++C.toList.drop (n*i.size+nv.toList.length)).toArray=C1 at hst hCs hget
    have hrun:=oP (P:=P) (w:=w) (ty:=ty) (a:=some ⟨b,0,none⟩) (n:=n) (cap:=cap) (w':=w.setRow b C1) hu hni hi hlen hnv hroom (fun ad had=>by
     simp at had;subst had;rw[gq,Kl]
     exact hst) vv
    obtain⟨ev,hh2⟩:=Dj (w1:=w.setRow b C1) hh hk hl hm hm' hC hCs (B.cells.take (n*i.size)++news) rfl rfl rfl (by simp[World.setRow]) (setRow_heap w b C C1 B.ty _ hC) (fun b' hb'=>setRow_other w b b' _ hb')
     (by rw [Jy,hol,hnl,hCs]; exact hcap) (fun j d hd=>by
      refine⟨holdone d (Jo.2 ⟨j,hd⟩),?_⟩;rw[hget j (by have:=(Ja.1 hd).1;rw[Jy,hol,hnl] at this;exact this)];rw[Ji,hol] at hd;split at hd
      ·rename_i hlt;rw [if_pos hlt];rw[Jc,if_pos hlt] at hd;exact(q6 j d hd).2
      ·rename_i hlt; rw[if_neg hlt]; exact hnr.2 _ d hd)
    obtain⟨ev2,hh3⟩:=DK (k:=k) (B:={ B with cells:=B.cells.take (n*i.size)++news }) hh2 (by rw[Jn hklt]) hl;rw[RN hp k B _ hk,List.length_set] at ev2 hh3;have hBe:({ B with cells:=B.cells.take (n*i.size)++news }:Blk)=⟨B.ty,true,B.cells.take (n*i.size)++news⟩:=by rw[<-hl]
    rw[hBe] at ev ev2 hh3;refine⟨_,_,_,hrun,ev.trans ev2,hh3,?_⟩;exact .own _ _ _ _ cap b C1 B.ty _ (by simp[QP]) (by simp[ext,hm]) hroom hcm (setRow_heap w b C C1 B.ty _ hC) (by rw[hCs];exact hoff)
   ·have hov:∀u:World,u = w\/u = w.drew->(Builtin.firstCells i.size n (.slice (some ⟨b,0,none⟩) n cap)).run P u = .ok ((JJ (n * i.size)).map fun j=>C.getD j undef).toArray u:=by
     intro u hu2
     have hcell:∀j,j<n*i.size->u.cell? ((⟨b,0,none⟩:Addr).add j)=some (C.getD j undef):=fun j hj=>by
      rw[gq];have hlt:0+j<C.size:=vz;rcases hu2 with rfl|rfl
      ·have:=iQ hC hlt;simpa using this
      ·have:=iQ hC hlt;simpa using this
     have hr:=run_loadCells (P:=P) u ⟨b,0,none⟩ (n*i.size) (fun j=>C.getD j undef) hcell;simpa [Builtin.firstCells] using hr
    have hrun:=rX (P:=P) (w:=w) (ty:=ty) hu hni hi hz hlen (hov _ (.inr rfl)) hnv' vz hbp hby
    obtain⟨β',g1,g2,g3⟩:=mL (cap:=cap) (sz:=i.size) (e:=B.ty) (z:=zv) (n:=n) (m:=m) (olds:=B.cells.take (n*i.size)) hh1 e1 (QP hp k)
     (ov:=((JJ (n * i.size)).map fun j=>C.getD j undef).toArray) ⟨by simp [hol],fun j d hd=>by
      have hj:j<n*i.size:=by have:=(Ja.1 hd).1;rw[hol] at this;exact this
      rw[Jc,if_pos hj] at hd;have:=(q6 j d hd).2
      simpa [hj] using this⟩ hnr' holdone hol hnl hzs hmax _ rfl
    exact⟨_,_,β',hrun,g1,g2,g3⟩
end Go.V
namespace Go.V
def DL(hh:HeapRel w β hp)(hs:RelD w β hp s sv)(hx:RelD w β hp x xv)(h:kY P hp sT xT s x=some (d,hp')):
 Does P w β hp (Builtin.append_ #[sT,xT] ty #[sv,xv]) d hp':=by
 unfold kY at h;split at h
 ·rename_i e sz he;split at h
  ·rename_i by_ z m news hib hz hsrc;obtain⟨i,hi,rfl⟩:=oM hib;split at h
   ·rename_i n olds hp1 hbase;split at h
    ·rename_i hc;simp at h;obtain⟨rfl,rfl⟩:=h;obtain⟨hni,hszp,hzl,hbp,hby⟩:=hc;obtain⟨hu,i',hi',rfl⟩:=Qq he;rw[hi] at hi';simp at hi';subst hi';obtain⟨zv,_,⟨i2,hi2,hz2⟩,hzr⟩:=gZ hz w β hp;rw[hi] at hi2;simp at hi2;subst hi2;have hzs:zv.cells.size=i.size:=by rw[<-hzr.1,hzl]
     obtain⟨hlen,hnl,hone,hcells⟩:=mK (P:=P) hh hszp hx hsrc;obtain⟨_,_,_,hcells'⟩:=mK (P:=P) hh.drew hszp (hx.mono (ia w β hp)) hsrc;obtain⟨nv,hnv,hnr⟩:=hcells m (Jd _);obtain⟨nv',hnv',hnr'⟩:=hcells' m (Jd _);have hnews:news.take (m*i.size)=news:=JE vz;rw[hnews] at hnr hnr'
     have hmax:n+m<=maxLen:=by
      have:n+m<=(n+m)*i.bytes:=Jp _ hbp;simp[maxLen];omega
     have hnr'':RelL w β hp news nv':=⟨hnr'.1,fun j d hd=>(hnr'.2 j d hd).mono (oO w β hp)⟩
     unfold vN at hbase;split at hbase
     ·rename_i k sz' n';split at hbase
      ·rename_i B hk;split at hbase
       ·rename_i hcond;simp at hbase;obtain⟨rfl,rfl,rfl⟩:=hbase;obtain⟨hl,hty,rfl,hfit⟩:=hcond;exact RP hh hu hni hi hz2 hzs hszp hbp hby hk hl hty hfit hs hlen hnl hone hnv hnr hnv' hnr'' hmax
       ·simp at hbase
      ·simp at hbase
     ·rename_i xs;split at hbase
      ·rename_i hcond;simp at hbase;obtain⟨rfl,rfl,rfl⟩:=hbase;have hsx:=mG hs (xs:=xs) rfl;obtain⟨a,cap,sz2,val,hsv,_,_,_,ha,_,_,hcapx⟩:=hsx;have hcap:=hcapx rfl;subst hcap
       obtain⟨hol1,hol2,hol3,hoc⟩:=mK (P:=P) (n:=xs.length) (cs:=pvs xs) hh.drew hszp (hs.mono (ia w β hp)) (by
        unfold dM;simp only[cX]
        rw[if_pos hcond.1])
       obtain⟨ov,hov,hor⟩:=hoc xs.length (Jd _);have hol:(pvs xs).take (xs.length*i.size)=pvs xs:=JE vz;rw[hol] at hor;have hor':RelL w β hp (pvs xs) ov:=⟨hor.1,fun j d hd=>(hor.2 j d hd).mono (oO w β hp)⟩
       subst hsv;by_cases hm0:m=0
       ·subst hm0;have hx0:xs=[]:=by rcases hcond.2 with h|h;exact h;omega
        subst hx0;have hn0:news=[]:=Jx (by simpa using hnl);subst hn0;have hnv0:nv=#[]:=by have:=hnr.1;simp at this;exact Jj this.symm
        subst hnv0;have hrun:=oP (P:=P) (w:=w) (ty:=ty) (a:=a) (n:=0) (cap:=0) (w':=w) hu hni hi hlen hnv vz (fun ad _=>by simp[storeCells]) (fun _=>rfl)
        have e:Evo w β hp w (ext β hp.length none) (hp++[⟨e,true,pvs []++[]⟩]):=by
         refine⟨rfl,rfl,rfl,Jd _,vv,fun j hj=>cG hj,fun _ _ _=>rfl,fun _ C _ m h=>⟨C,m,h,rfl⟩,fun b _ hb=>?_,rfl⟩;obtain⟨j,D,g1,g2,g3⟩:=hb;rcases JF j hp.length with hlt|heq|hgt
         ·rw[Jh hlt] at g1;rw[cG hlt] at g3;exact⟨j,D,g1,g2,g3⟩
         ·subst heq;simp[ext] at g3
         ·rw[Jk vz,Ju vg] at g1;simp at g1
        exact⟨_,_,_,hrun,e,rU hh rfl e vv (by simp[pvs]) (fun _ _=>rfl),.own0 _ _ a vv (by simp[ext]) trivial⟩
       ·have hrun:=rX (P:=P) (w:=w) (ty:=ty) hu hni hi hz2 hlen hov hnv' vz hbp hby
        obtain⟨β',g1,g2,g3⟩:=mL (cap:=xs.length) (sz:=i.size) (e:=e) (z:=zv) (n:=xs.length) (m:=m) hh (Evo.refl w β hp) rfl hor' hnr'' (fun d hd=>by
         rcases JK.1 hd with hd|hd
         ·exact hol3 d hd
         ·exact hone d hd) hol2 hnl hzs hmax _ rfl
        exact⟨_,_,β',hrun,g1,g2,g3⟩
      ·simp at hbase
     ·simp at hbase
    ·simp at h
   ·simp at h
  ·simp at h
 ·simp at h
def vO (P:Program) (hp:Qb) (dT:TypeId) (d s:DV):Option (DV × Qb) :=
 match QL P dT,d with
 |some (none,_,sz),.own k sz' off len =>
   match dM hp sz s,Qc hp k with
   |some (m,news),some cs =>
     if 0<sz/\sz'=sz/\off+len*sz<=cs.length then some (.int .i64 (min m len:Nat),Qm hp k (splice cs off (news.take (min m len*sz)))) else none
   |_,_=>none
 |_,_=>none
def vP(h:∀d∈ds,d.one=true):Qp ds=true:=by
 induction ds with
 |nil=>rfl
 |cons x r ih=>simp[Qp,h x vv,ih (fun d hd=>h d (by simp[hd]))]
def RR (hh:HeapRel w β hp) (hd:RelD w β hp d dv) (hs:RelD w β hp s sv) (h:vO P hp dT d s = some (r,hp')):
 Does P w β hp (Builtin.copy_ #[dT,sT] ty #[dv,sv]) r hp':=by
 unfold vO at h;split at h
 ·rename_i e sz k sz' off len he;split at h
  ·rename_i m news cs hsrc hb;split at h
   ·rename_i hc;simp at h;obtain⟨rfl,rfl⟩:=h;obtain⟨hszp,rfl,hfit⟩:=hc;obtain⟨hu,i,hi,rfl⟩:=Qq he;obtain⟨hlen,hnl,hone,hcells⟩:=mK (P:=P) hh hszp hs hsrc;obtain⟨nv,hnv,hnr⟩:=hcells (min m len) (JY _ _);have hones:Qp (news.take (min m len*i.size))=true:=vP fun d hd=>hone d (Jq hd);have hmlen:min m len*i.size<=len*i.size:=Je _ (J9 _ _);have hmlen2:min m len*i.size<=m*i.size:=Je _ (JY _ _);have hnn:(news.take (min m len*i.size)).length=min m len*i.size:=vg;cases hd with
    |own0 _ _ a hk hm ha =>
      have hz:min m 0=0:=vz;simp only[hz,J6,JO] at *;have hnv0:nv=#[]:=by have:=hnr.1;simp at this;exact Jj this.symm
      subst hnv0
      have hsame:Qm hp k (splice cs 0 [])=hp:=by
       unfold Qm;unfold Qc at hb;split at hb
       ·rename_i B hk;split at hb
        ·simp at hb;subst hb;simp only[splice,JO,List.nil_append,JW,JN,Ki];have hlt:=(Ja.1 hk).1;apply J5
         intro j;by_cases hj:j=k
         ·subst hj;rw[Jn hlt,hk]
         ·rw[Jv vz]
        ·simp at hb
       ·simp at hb
      rw[hsame];refine Qh hh (v:=.int .i64 0) ?_ (.pv _ _ (.lit _ rfl));cases a<;>simp[Builtin.copy_,run_underlying hu,hlen,sizeOf,typeInfo,hi,hnv,storeCells,goInt]
    |own _ _ _ _ cap b C T m0 hk hm h1 h2 h3 h4 =>
      obtain⟨w',g1,g2,g3⟩:=oI (P:=P) (off:=off) hh hb hm hnr.1 hnr.2 hones (by rw[hnn];omega);refine⟨.int .i64 (min m len:Nat),w',β,?_,g2,g3,.pv _ _ (.lit _ rfl)⟩;have hz':Nat.min m len=min m len:=rfl;simp[Builtin.copy_,run_underlying hu,hlen,sizeOf,typeInfo,hi,hz',hnv,g1,goInt]
   ·simp at h
  ·simp at h
 ·simp at h
def gv:List DV->Option (List UInt8)
 |[]=>some []
 |.pv (.lit (.int .u8 n))::r=>(gv r).map (UInt8.ofNat n.toNat::·)
 |_=>none
def iS(hp:Qb):DV->Option (Nat×List DV)
 |.pv (.str _)=>none
 |x=>dM hp 1 x
def oQ (P:Program) (S T:TypeId) (x:DV) (src:Option (Nat × List DV)):Option DV :=
 match P.underlying S,P.underlying T,x with
 |some (.int _),some (.int k),.pv (.lit (.int _ n))=>some (.int k (k.wrap n))
 |some .string,some .string,.pv (.str l)=>some (.str l)
 |some (.slice e),some .string,_ =>
   match P.underlying e,src with
   |some (.int .u8),some (n,cs)=>match gv cs with
     |some l=>if l.length=n then some (.str l) else none
     |none=>none
   |_,_=>none
 |_,_,_=>none
def ib(P:Program)(hp:Qb)(S T:TypeId)(x:DV):Option (DV×Qb):=(oQ P S T x (iS hp x)).map fun d=>(d,hp)
def DM:∀{cs:List DV} {vs:List Value} {l:List UInt8} (s:ByteArray),cs.length = vs.length->(∀(i:Nat) (d:DV),cs[i]? = some d->RelD w β hp d (vs.getD i undef))->gv cs = some l ->
 ∀(f:Value->ByteArray->Sem (ForInStep ByteArray)),(∀(n:Int) (r:ByteArray),(f (.int .u8 n) r).run P w=.ok (.yield (r.push (UInt8.ofNat n.toNat))) w) ->
 (forIn vs s f).run P w=.ok ⟨(s.data.toList++l).toArray⟩ w
 |[],[],l,s,_,_,h,f,hf=>by simp[gv] at h;subst h;simp
 |[],_::_,_,_,hl,_,_,_,_=>by simp at hl
 |_::_,[],_,_,hl,_,_,_,_=>by simp at hl
 |c :: cs,v :: vs,l,s,hl,hr,h,f,hf=>by
   have h0:=hr 0 c rfl;unfold gv at h;split at h
   ·rename_i he;simp at he
   ·rename_i n r he;simp at he;obtain⟨rfl,rfl⟩:=he;simp at h0;obtain rfl:=Qk h0;cases hb:gv cs with
    |none=>simp[hb] at h
    |some l' =>
      simp[hb] at h;subst h;have ih:=DM (s.push (UInt8.ofNat n.toNat)) (by simpa using hl) (fun i d hd=>by simpa using hr (i+1) d (by simpa using hd)) hb f hf;simp only[Ke,Sem.run_bind,hf,Result.andThen_ok];rw[ih];congr 2;simp[ByteArray.push]
   ·simp at h
def RT(hh:HeapRel w β hp)(hx:RelD w β hp x v)(h:ib P hp S T x=some (d,hp')):
 Does P w β hp (convert S T v) d hp':=by
 unfold ib at h;cases h0:oQ P S T x (iS hp x) with
 |none=>simp[h0] at h
 |some d0=>
 simp[h0] at h;obtain⟨rfl,rfl⟩:=h;have h:=h0;clear h0;unfold oQ at h;split at h
 ·rename_i k' k ks n hs ht;simp at h;subst h;obtain rfl:=Qk hx;exact Qh hh (by simp[convert,run_underlying hs,run_underlying ht,Conv.intToInt]) (.pv _ _ (.lit _ rfl))
 ·rename_i l hs ht;simp at h;subst h;obtain rfl:=jH hx;exact Qh hh (by simp[convert,run_underlying hs,run_underlying ht]) (.pv _ _ (.str _))
 ·rename_i x _a _b _c e hs ht;split at h
  ·rename_i n cs hu hsrc0;have hnstr:∀l,x≠.pv (.str l):=by intro l hl;subst hl;simp[iS] at hsrc0
   have hsrc:dM hp 1 x=some (n,cs):=by
    unfold iS at hsrc0;split at hsrc0
    ·simp at hsrc0
    ·exact hsrc0
   split at h
   ·rename_i l hb;split at h
    ·rename_i hl;simp at h;subst h;obtain⟨hlen,hnl,hone,hcells⟩:=mK (P:=P) hh vz hx hsrc;obtain⟨nv,hnv,hnr⟩:=hcells n (Jd _);rw[JE vz] at hnr
     have hsl:(∃a cap,v=.slice a n cap):=by
      unfold dM at hsrc;split at hsrc
      ·split at hsrc
       ·split at hsrc
        ·simp at hsrc;obtain ⟨rfl,_⟩:=hsrc;cases hx with
         |own0=>exact⟨_,_,rfl⟩
         |own=>exact⟨_,_,rfl⟩
        ·simp at hsrc
       ·simp at hsrc
      ·rename_i l' hne hne2;exact absurd rfl (hnstr _)
      ·simp at hsrc;obtain⟨rfl,_⟩:=hsrc;obtain rfl:=Qk hx;exact⟨_,_,rfl⟩
      ·split at hsrc
       ·rename_i xs hxs;obtain⟨a,cap,_,_,rfl,_⟩:=mG hx hxs;split at hsrc
        ·simp at hsrc;obtain⟨rfl,_⟩:=hsrc;exact⟨a,cap,rfl⟩
        ·simp at hsrc
       ·simp at hsrc
     obtain⟨a,cap,rfl⟩:=hsl;refine Qh hh (v:=.string ⟨l.toArray⟩) ?_ (.pv _ _ (.str _))
     have hconv:(convert S T (.slice a n cap)).run P w=(Conv.bytesToString (.slice a n cap)).run P w:=by
      simp[convert,run_underlying hs,run_underlying ht,run_underlying hu]
     rw[hconv];cases a with
     |none =>
       simp[Builtin.firstCells] at hnv;subst hnv;have:cs=[]:=by have:=hnr.1;simp at this;exact this
       subst this;simp[gv] at hb;subst hb;simp[Conv.bytesToString];rfl
     |some ad =>
       have hload:(loadCells ad n).run P w=.ok nv w:=by simpa [Builtin.firstCells] using hnv
       unfold Conv.bytesToString;simp only[Sem.run_bind,hload,Result.andThen];rw[<-Array.forIn_toList];rw[DM (β:=β) (hp:=hp) (cs:=cs) (l:=l) ByteArray.empty (by simp[hnr.1]) (fun i d hd=>by have:=hnr.2 i d hd;simpa [Jb,JL] using this) hb _ (by intro n r;simp[Sem.run_pure])];simp[Sem.run_pure]
    ·simp at h
   ·simp at h
  ·simp at h
 ·simp at h
def fL(P:Program)(T:TypeId)(x:DV):Option DV:=
 match P.underlying T,x with
 |some .string,.pv (.str l)=>some (.int .i64 l.length)
 |some (.array n _),_=>some (.int .i64 n)
 |some (.slice _),.own _ _ _ len=>some (.int .i64 len)
 |some (.slice _),.ownc _ _ _ len _=>some (.int .i64 len)
 |some (.slice _),.pv (.lit (.slice none 0 0))=>some (.int .i64 0)
 |some (.slice _),x=>(cX x).map fun xs=>.int .i64 xs.length
 |_,_=>none
def RU (hh:HeapRel w β hp) (hx:RelD w β hp x v) (h:fL P T x = some d):
 Does P w β hp (Builtin.len_ #[T] ty #[v]) d hp:=by
 unfold fL at h;split at h
 ·rename_i l hu;simp at h;subst h;obtain rfl:=jH hx;have hsz:(⟨l.toArray⟩:ByteArray).size=l.length:=by simp[ByteArray.size]
  exact Qh hh (v:=.int .i64 l.length) (by simp[Builtin.len_,run_underlying hu,goInt,hsz]) (.pv _ _ (.lit _ rfl))
 ·rename_i x' n e hu;simp at h;subst h;exact Qh hh (v:=.int .i64 n) (by simp[Builtin.len_,run_underlying hu,goInt]) (.pv _ _ (.lit _ rfl))
 ·rename_i e k sz off len hu;simp at h;subst h;cases hx with
  |own0=>exact Qh hh (v:=.int .i64 0) (by simp[Builtin.len_,run_underlying hu,goInt]) (.pv _ _ (.lit _ rfl))
  |own=>exact Qh hh (v:=.int .i64 len) (by simp[Builtin.len_,run_underlying hu,goInt]) (.pv _ _ (.lit _ rfl))
 ·rename_i e k sz off len cap hu;simp at h;subst h;cases hx with
  |ownc=>exact Qh hh (v:=.int .i64 len) (by simp[Builtin.len_,run_underlying hu,goInt]) (.pv _ _ (.lit _ rfl))
 ·rename_i e hu;simp at h;subst h;obtain rfl:=Qk hx;exact Qh hh (v:=.int .i64 0) (by simp[Builtin.len_,run_underlying hu,goInt]) (.pv _ _ (.lit _ rfl))
 ·rename_i x' _t _x e hu hne hne2 hne3;cases hs:cX x' with
  |none=>simp[hs] at h
  |some xs =>
    simp[hs] at h;subst h;obtain⟨a,cap,_,_,rfl,_⟩:=mG hx hs;exact Qh hh (v:=.int .i64 xs.length) (by simp[Builtin.len_,run_underlying hu,goInt]) (.pv _ _ (.lit _ rfl))
 ·simp at h
def vmin(x y:DV):Option DV:=
 match x,y with
 |.pv (.lit (.int k a)),.pv (.lit (.int _ b))=>some (.int k (if b<a then b else a))
 |_,_=>none
def vmax(x y:DV):Option DV:=
 match x,y with
 |.pv (.lit (.int k a)),.pv (.lit (.int _ b))=>some (.int k (if b > a then b else a))
 |_,_=>none
def RV(hh:HeapRel w β hp)(hx:RelD w β hp x v)(hy:RelD w β hp y u)(h:vmin x y=some d):
 Does P w β hp (Builtin.min_ Ts ty #[v,u]) d hp:=by
 unfold vmin at h;split at h
 ·simp at h;subst h;obtain rfl:=Qk hx;obtain rfl:=Qk hy;exact Qh hh (run_min_int2 w Ts ty _ _ _ _) (.pv _ _ (.lit _ rfl))
 ·simp at h
def RW(hh:HeapRel w β hp)(hx:RelD w β hp x v)(hy:RelD w β hp y u)(h:vmax x y=some d):
 Does P w β hp (Builtin.max_ Ts ty #[v,u]) d hp:=by
 unfold vmax at h;split at h
 ·simp at h;subst h;obtain rfl:=Qk hx;obtain rfl:=Qk hy;exact Qh hh (run_max_int2 w Ts ty _ _ _ _) (.pv _ _ (.lit _ rfl))
 ·simp at h
def mM:DV->Nat->Option DV
 |.tup ds,i=>ds[i]?
 |_,_=>none
def RX (hh:HeapRel w β hp) (hx:RelD w β hp x v) (h:mM x i = some d):Does P w β hp (Instr.extract v i) d hp:=by
 cases hx with
 |tup ds vs hl hds =>
   simp only[mM] at h;have hlt:i<vs.size:=by rw[<-hl];exact(Ja.1 h).1
   refine Qh hh (v:=vs.getD i undef) ?_ (hds i d h);simp[Instr.extract,hlt]
 |_=>simp[mM] at h
def vun(op:UnOp)(x:DV):Option DV:=
 match op,x with
 |.neg,.pv (.lit (.int k n))=>some (.int k (k.wrap (0-n)))
 |.not,.pv (.lit (.bool b))=>some (.bool (!b))
 |.xor,.pv (.lit (.int .u32 n))=>some (.int .u32 (bits .xor .u32 4294967295 n))
 |_,_=>none
def RZ(hh:HeapRel w β hp)(hx:RelD w β hp x v)(h:vun op x=some d):Does P w β hp (Op.unary op v) d hp:=by
 unfold vun at h;split at h
 ·simp at h;subst h;obtain rfl:=Qk hx;exact Qh hh (by simp[Op.unary,Op.intArith]) (.pv _ _ (.lit _ rfl))
 ·simp at h;subst h;obtain rfl:=Qk hx;exact Qh hh (by simp[Op.unary]) (.pv _ _ (.lit _ rfl))
 ·simp at h;subst h;obtain rfl:=Qk hx;refine Qh hh ?_ (.pv _ _ (.lit _ rfl));rename_i n;have e:Op.unary .xor (.int .u32 n)=Op.intBits .xor .u32 4294967295 n:=rfl;rw[e,intBits_xor];rfl
 ·simp at h
def vQ (P:Program) (hp:Qb) (T:TypeId):DV->Option (DV × Qb)
 |.own k sz off len =>
   match QL P T with
   |some (none,e,_) =>
     match QO P e,Qc hp k with
     |some z,some cs=>if z.length=sz/\0<sz/\off+len*sz<=cs.length/\Qp z=true then some (.tup [],Qm hp k (splice cs off (mk z len))) else none
     |_,_=>none
   |_=>none
 |_=>none
def oR(h:Qc hp k=some cs):Qm hp k cs=hp:=by
 unfold Qc at h;split at h
 ·rename_i B hk;split at h
  ·simp at h;subst h;unfold Qm;rw[hk];apply J5
   intro j;rw[List.getElem?_set];split
   ·rename_i e;subst e;have hlt:=(Ja.1 hk).1;rw[if_pos hlt,hk]
   ·rfl
  ·simp at h
 ·simp at h
def oS(cs:List DV)(off:Nat):splice cs off []=cs:=by simp[splice]
def R0 (hh:HeapRel w β hp) (hx:RelD w β hp x v) (h:vQ P hp T x = some (d,hp')):
 Does P w β hp (Builtin.clear_ #[T] ty #[v]) d hp':=by
 unfold vQ at h;split at h
 ·rename_i k sz off len;split at h
  ·rename_i e sz' he;split at h
   ·rename_i z cs hz hb;split at h
    ·rename_i hc;simp at h;obtain⟨rfl,rfl⟩:=h;obtain⟨hzl,hsz,hfit,hone⟩:=hc;obtain⟨hu,i,hi,his⟩:=Qq he;obtain⟨zv,hzr,_,hrel⟩:=gZ hz w β hp;have unit:RelD w β hp (.tup []) (.tuple #[]):=.tup [] #[] rfl vv
     have none_:∀a c,Does P w β hp (Builtin.clear_ #[T] ty #[.slice a 0 c]) (.tup []) hp:=fun a c=>
      Qh hh (v:=.tuple #[]) (by cases a<;>simp[Builtin.clear_,run_underlying hu]) unit
     cases hx with
     |own0 _ _ a _ _ _ =>
       have e2:Qm hp k (splice cs 0 (mk z 0))=hp:=by rw[show mk z 0=[] from rfl,oS,oR hb]
       rw[e2];exact none_ a 0
     |own _ _ _ _ cap b C T0 m hk hm h1 h2 h3 h4 =>
       cases len with
       |zero =>
         have e2:Qm hp k (splice cs off (mk z 0))=hp:=by rw[show mk z 0=[] from rfl,oS,oR hb]
         rw[e2];exact none_ _ cap
       |succ n =>
         obtain⟨g1,g2⟩:=mI hrel vz (n+1) ((n+1)*zv.cells.size) (by rw[hrel.1];exact Jd _);have hlen:(mk z (n+1)).length=(madeCells zv.cells ((n+1)*zv.cells.size)).size:=by rw[fK,size_madeCells,hrel.1]
         obtain⟨w',s1,s2,s3⟩:=oI (P:=P) (off:=off) hh hb hm hlen g2 (mH hone _) (by rw[fK,hzl];exact hfit);refine⟨.tuple #[],w',β,?_,s2,s3,.tup [] #[] rfl vv⟩;have e3:Builtin.zeroCells zv.cells (n+1)=madeCells zv.cells ((n+1)*zv.cells.size):=rfl;simp[Builtin.clear_,run_underlying hu,hzr];rw[e3,s1];rfl
    ·simp at h
   ·simp at h
  ·simp at h
 ·simp at h
end Go.V
namespace Go.V
def rows(sz:Nat):Nat->List DV->List (List DV)
 |0,_=>[]
 |n+1,l=>l.take sz::rows sz n (l.drop sz)
def Qi{α:Type}:List (Option α)->Option (List α)
 |[]=>some []
 |some a::r=>(Qi r).map (a::·)
 |none::_=>none
def QE:∀{l:List (Option α)} {m:List α},Qi l = some m->m.length = l.length/\∀(i:Nat) (a:α),m[i]? = some a->l[i]? = some (some a)
 |[],m,h=>by simp[Qi] at h;subst h;simp
 |none::r,m,h=>by simp[Qi] at h
 |some a :: r,m,h=>by
   cases hr:Qi r with
   |none=>simp[Qi,hr] at h
   |some m' =>
     simp[Qi,hr] at h;subst h;obtain⟨h1,h2⟩:=QE hr;refine⟨by simp[h1],fun i b hb=>?_⟩;cases i with
     |zero=>simp at hb;subst hb;rfl
     |succ i=>simpa using h2 i b (by simpa using hb)
def R1(sz n:Nat)(l:List DV):(rows sz n l).length=n:=by
 induction n generalizing l with
 |zero=>rfl
 |succ n ih=>simp[rows,ih]
def vR:∀{n i:Nat} {l:List DV},i < n->(rows sz n l)[i]? = some ((l.drop (i * sz)).take sz)
 |0,i,l,h=>by omega
 |n+1,0,l,h=>by simp[rows]
 |n + 1,i + 1,l,h=>by
   simp only[rows,JQ];rw[vR vz];simp only[List.drop_drop];congr 3;rw[Jr];omega
def bH (n:Nat) (hp:Qb):Nat->DV->Option PV
 |0,d=>match d with
   |.pv p=>some p
   |_=>none
 |f + 1,d=>match d with
   |.pv p=>some p
   |.own k sz off len =>
     if k<n then none else
     match Qc hp k with
     |some cs =>
       if off+len*sz<=cs.length/\0<sz then ((Qi ((rows sz len (cs.drop off)).map fun r=>Qi (r.map (bH n hp f))))).map .sl else none
     |none=>none
   |_=>none
def aD(n:Nat)(hp:Qb)(d:DV):Option DV:=
 match d with
 |.own k sz off len=>if k<n then some d else (bH n hp 4 (.own k sz off len)).map .pv
 |.ptr k _=>if k<n then some d else none
 |.pv _=>some d
 |.ip _=>none
 |.any=>some .any
 |.fn f [] []=>some (.fn f [] [])
 |_=>none
def frz(n:Nat)(hp:Qb):DV->Option DV
 |.agg cs=>(Qi (cs.map (aD n hp))).map .agg
 |.tup cs=>(Qi (cs.map fun d=>match d with|.agg es=>(Qi (es.map (aD n hp))).map .agg|d=>aD n hp d)).map .tup
 |d=>aD n hp d
structure Leaves(w:World)(β:Map)(hp:Qb)(n:Nat)(im':Nat->Prop):Prop where
 sub:∀b,im' b->img β hp b
 off:∀k B b,n<=k->hp[k]?=some B->B.live=true->β.f k=some b->¬im' b
def vS (hh:HeapRel w β hp) (hl:Leaves w β hp n im'):∀(f:Nat) {d:DV} {p:PV} {v:Value},RelD w β hp d v->bH n hp f d = some p->RelP w im' p v
 |f,d,  p,v,  hd, h => by
   have pvcase:∀{q:PV},d=.pv q->p=q->RelP w im' p v:=by
    intro q e1 e2;subst e1 e2;cases hd with
    |pv _ _ hp'=>exact hp'.mono (Jd _) (fun _ _ _=>rfl) (fun b _=>hl.sub b)
   cases f with
   |zero =>
     simp only[bH] at h;split at h
     ·simp at h;exact pvcase rfl h.symm
     ·simp at h
   |succ f =>
     simp only[bH] at h;split at h
     ·simp at h;exact pvcase rfl h.symm
     ·rename_i k sz off len;split at h
      ·simp at h
      ·rename_i hkn;split at h
       ·rename_i cs hb;split at h
        ·rename_i hfit;cases hall:Qi ((rows sz len (cs.drop off)).map fun r=>Qi (r.map (bH n hp f))) with
         |none=>simp[hall] at h
         |some xs =>
           simp[hall] at h;subst h;obtain⟨g1,g2⟩:=QE hall;have hxl:xs.length=len:=by simpa [R1] using g1
           cases hd with
           |own0 _ _ a hk hm ha =>
             have:xs=[]:=Jx hxl;subst this;exact .sl [] a 0 0 (fun _ _=>undef) vv (Kb _) vv (fun _ _ h0=>absurd h0 (J1 _)) vv vv
           |own _ _ _ _ cap b C T m hk hm h1 h2 h3 h4 =>
             obtain⟨B,⟨C',m',hm'⟩,q1,q2,q3,q4,q5,q6⟩:=gu hh hb hm;dsimp only at q4 q5 q6;rw[h3] at q4;simp at q4;obtain⟨hCC,rfl,rfl⟩:=q4;subst hCC
             have hcell:∀(i j:Nat) (c:List PV) (d:PV),xs[i]?=some c->c[j]?=some d->i<len/\c.length=sz/\j<sz/\∃e,cs[off+(i*sz+j)]?=some e/\bH n hp f e=some d:=by
              intro i j c d hc hcd;have hi:i<len:=by rw[<-hxl];exact(Ja.1 hc).1
              have g3:=g2 i c hc;rw[Jl,vR hi] at g3;simp at g3;obtain⟨g4,g5⟩:=QE g3
              have hcl:c.length=sz:=by
               rw[g4]
               have:i*sz+sz<=len*sz:=by
                have:(i+1)*sz<=len*sz:=Je _ hi;rw[Jr] at this;omega
               simp;omega
              have hj:j<sz:=by rw[<-hcl];exact(Ja.1 hcd).1
              have g6:=g5 j d hcd;simp only[Jc,if_pos hj,Jf,Jl] at g6;have hidx:off+i*sz+j=off+(i*sz+j):=vz;rw[hidx] at g6;cases he:cs[off+(i*sz+j)]? with
              |none=>simp[he] at g6
              |some e=>simp[he] at g6;exact⟨hi,hcl,hj,e,rfl,g6⟩
             have hb0:b<w.heap.size:=(JB.1 h3).1;have hno:¬im' b:=hl.off k B b vz q1 q2 hm;have key:=RelP.sl (w:=w) (im:=im') xs (some ⟨b,off,none⟩) cap sz (fun i j=>C.getD (off+(i*sz+j)) undef) vz h2 (fun i c hc=>?_) vv (fun i j c d hc hcd=>?_) (fun i j c d hc hcd=>?_)
             ·rw[hxl] at key;exact key
             ·have hi:i < len:=by rw [<-hxl];exact (Ja.1 hc).1
              have g3:=g2 i c hc;rw[Jl,vR hi] at g3;simp at g3;obtain⟨g4,g5⟩:=QE g3;rw[g4]
              have:i*sz+sz<=len*sz:=by
               have:(i+1)*sz<=len*sz:=Je _ hi;rw[Jr] at this;omega
              simp;omega
             ·obtain ⟨hi,hcl,hj,e,he,_⟩:=hcell i j c d hc hcd;have hlt:=(Ja.1 he).1;exact⟨⟨b,off,none⟩,rfl,hb0,hno,iQ (o:=off+(i*sz+j)) h3 vz⟩
             ·obtain ⟨hi,hcl,hj,e,he,hf⟩:=hcell i j c d hc hcd;exact vS hh hl f (q6 _ _ he).2 hf
        ·simp at h
       ·simp at h
     ·simp at h
def oT (hh:HeapRel w β hp) (hl:Leaves w β hp n (img β' hp')) (hf:∀k,k < n->β'.f k = β.f k) (hn:n<=hp'.length) (hd:RelD w β hp d v) (h:aD n hp d = some d'):RelD w β' hp' d' v:=by
 unfold aD at h;split at h
 ·rename_i k sz off len;split at h
  ·rename_i hk;simp at h;subst h;cases hd with
   |own _ _ _ _ cap b C T m _ hm h1 h2 h3 h4=>exact .own k sz off len cap b C T m vz ((hf k hk).trans hm) h1 h2 h3 h4
   |own0 _ _ a _ hm ha=>exact .own0 k sz a vz ((hf k hk).trans hm) ha
  ·cases hp4:bH n hp 4 (.own k sz off len) with
   |none=>simp[hp4] at h
   |some p =>
     simp[hp4] at h;subst h;exact .pv _ _ (vS hh hl 4 hd hp4)
 ·rename_i k off;split at h
  ·rename_i hk;simp at h;subst h;cases hd with
   |ptr _ _ b _ hm=>exact .ptr k off b vz ((hf k hk).trans hm)
  ·simp at h
 ·simp at h;subst h;cases hd with
  |pv _ _ hp0=>exact .pv _ _ (hp0.mono (Jd _) (fun _ _ _=>rfl) (fun b _=>hl.sub b))
 ·simp at h
 ·simp at h;subst h;exact .any v
 ·simp at h;subst h;cases hd with
  |fn _ _ _ vs us h1 h2 _ _=>exact .fn _ [] [] vs us h1 h2 vv vv
 ·simp at h
def DN (hh:HeapRel w β hp) (hl:Leaves w β hp n (img β' hp')) (hf:∀k,k < n->β'.f k = β.f k) (hn:n<=hp'.length) (hd:RelL w β hp ds vs) (h:Qi (ds.map (aD n hp)) = some ds'):RelL w β' hp' ds' vs:=by
 obtain⟨h1,h2⟩:=QE h;refine⟨by rw[h1];simpa using hd.1,fun i d hi=>?_⟩;have h3:=h2 i d hi;rw[Jl] at h3;cases he:ds[i]? with
 |none=>simp[he] at h3
 |some e =>
   simp[he] at h3;exact oT hh hl hf hn (hd.2 i e he) h3
def R2 (hh:HeapRel w β hp) (hl:Leaves w β hp n (img β' hp')) (hf:∀k,k < n->β'.f k = β.f k) (hn:n<=hp'.length) (hd:RelD w β hp d v) (h:frz n hp d = some d'):RelD w β' hp' d' v:=by
 unfold frz at h;split at h
 ·rename_i cs;cases hall:Qi (cs.map (aD n hp)) with
  |none=>simp[hall] at h
  |some ds =>
    simp[hall] at h;subst h;cases hd with
    |agg _ vs h1 h2 =>
      obtain⟨g1,g2⟩:=DN hh hl hf hn ⟨h1,h2⟩ hall;exact .agg _ _ g1 g2
 ·rename_i cs;cases hall:Qi (cs.map fun d=>match d with|.agg es=>(Qi (es.map (aD n hp))).map .agg|d=>aD n hp d) with
  |none=>simp[hall] at h
  |some ds =>
    simp[hall] at h;subst h;cases hd with
    |tup _ vs h1 h2 =>
      obtain⟨g1,g2⟩:=QE hall;refine .tup _ _ (by rw[g1];simpa using h1) (fun i d hi=>?_);have h3:=g2 i d hi;rw[Jl] at h3;cases he:cs[i]? with
      |none=>simp[he] at h3
      |some e =>
        simp only[he,Kg,JS.injEq] at h3;have hrel:=h2 i e he;split at h3
        ·rename_i es;cases hes:Qi (es.map (aD n hp)) with
         |none=>simp[hes] at h3
         |some fs =>
           simp[hes] at h3;subst h3;generalize vs.getD i undef=u at hrel |-;cases hrel with
           |agg _ us a1 a2 =>
             obtain⟨b1,b2⟩:=DN hh hl hf hn ⟨a1,a2⟩ hes;exact .agg _ _ b1 b2
        ·exact oT hh hl hf hn hrel h3
 ·exact oT hh hl hf hn hd h
end Go.V
namespace Go.V
open Go.Lib
def vT(P:Program)(T:TypeId):Bool:=match P.underlying T with|some (.pointer te)=>(P.info? te).isSome|_=>false
def R3(h:vT P T=true):∃te j,P.underlying T=some (.pointer te)/\P.info? te=some j:=by
 unfold vT at h;split at h
 ·rename_i te hu;obtain⟨j,hj⟩:=Option.isSome_iff_exists.1 h;exact⟨te,j,hu,hj⟩
 ·cases h
def oU(P:Program)(op:BinOp)(T:TypeId)(b:Bool):Option DV:=
 if vT P T=true then match op with|.eql=>some (.bool b)|.neq=>some (.bool (!b))|_=>none else none
def vU(hh:HeapRel w β hp)(hk:∀te j,P.underlying T=some (.pointer te)->P.info? te=some j->∀n:Nat,(Op.equalIn (n+1) T (.pointer a) (.pointer c)).run P w=.ok b w)(h:oU P op T b=some d):
 Does P w β hp (do eqGuard op T x y (.pointer a) (.pointer c);binOp op T (.pointer a) (.pointer c)) d hp:=by
 unfold oU at h;split at h
 ·rename_i hp;obtain⟨te,j,hu,hj⟩:=R3 hp;have hk:=hk te j hu hj 9999;split at h
  ·simp at h;subst h;exact Qh hh (v:=.bool b) (by rw[eqGuard_at_pointer];simp only[binOp];simp[Op.equal,Op.maxDepth,hk]) (.pv _ _ (.lit _ rfl))
  ·simp at h;subst h;exact Qh hh (v:=.bool (!b)) (by rw[eqGuard_at_pointer];simp only[binOp];simp[Op.equal,Op.maxDepth,hk]) (.pv _ _ (.lit _ rfl))
  ·cases h
 ·cases h
def R4(hu:P.underlying T=some (.pointer te))(n:Nat):(Op.equalIn (n+1) T (.pointer none) (.pointer none)).run P w=.ok true w:=by
 simp[Op.equalIn,run_underlying hu]
def R5(hu:P.underlying T=some (.pointer te))(n:Nat):(Op.equalIn (n+1) T (.pointer (some a)) (.pointer none)).run P w=.ok false w:=by
 simp[Op.equalIn,run_underlying hu]
def R6(hu:P.underlying T=some (.pointer te))(hj:P.info? te=some j)(n:Nat):(Op.equalIn (n+1) T (.pointer (some a)) (.pointer (some a))).run P w=.ok true w:=by
 simp[Op.equalIn,run_underlying hu,sizeOf,typeInfo,hj,run_sameAddr_same]
def R7(hc:P.cellsOf e≠0)(hn:1<=count):liesAt P P.depth e count 0 e 1=true:=by
 have hd:P.depth=(2*(P.types.size+Made.depth)+1)+1:=rfl;rw[hd];simp only[liesAt,Bool.or_eq_true];left;rw[hd];simp[rowAt,hc,hn,sameLayout]
def mN (P:Program) (hp:Qb) (S T:TypeId) (k off:Nat):Option DV :=
 match P.underlying S,P.underlying T,hp[k]? with
 |some (.pointer t),some .unsafePointer,some B=>match P.info? t with
   |some j=>if B.live=true/\j.size≠0/\off<B.cells.length then some (.ptr k off) else none
   |none=>none
 |some .unsafePointer,some (.pointer u),some B=>match P.info? u with
   |some _=>if B.live=true/\off=0/\B.ty=u/\P.cellsOf u≠0/\P.cellsOf u<=B.cells.length then some (.ptr k off) else none
   |none=>none
 |_,_,_=>none
def R8 (hh:HeapRel w β hp) (hx:RelD w β hp (.ptr k off) v) (h:mN P hp S T k off = some d):
 Does P w β hp (convert S T v) d hp:=by
 unfold mN at h;split at h
 ·rename_i t B hs ht hk;split at h
  ·rename_i j hj;split at h
   ·rename_i hc;simp at h;subst h;cases hx with
    |ptr _ _ b hlt hm =>
      obtain⟨C,g1,g2,g3⟩:=hh.blk k B b hk hc.1 hm;refine Qh hh (v:=.pointer (some ⟨b,off,none⟩)) ?_ (.ptr k off b hlt hm);exact run_to_unsafe w ⟨b,off,none⟩ hs ht hj hc.2.1 (e:=B.ty) (cells:=C.v.size) (by simp[World.shape?,g1]) (by have:=hc.2.2;simp;omega)
   ·cases h
  ·cases h
 ·rename_i u B hs ht hk;split at h
  ·rename_i j hj;split at h
   ·rename_i hc;simp at h;subst h;cases hx with
    |ptr _ _ b hlt hm =>
      obtain⟨C,g1,g2,g3⟩:=hh.blk k B b hk hc.1 hm;obtain⟨c1,rfl,rfl,c2,c3⟩:=hc;refine Qh hh (v:=.pointer (some ⟨b,0,none⟩)) ?_ (.ptr k 0 b hlt hm);refine run_from_unsafe w ⟨b,0,none⟩ hs ht hj (e:=B.ty) (cells:=C.v.size) (by simp[World.shape?,g1]) (R7 c2 ?_);exact Nat.div_pos (Jt c3 g2) (Nat.pos_of_ne_zero c2)
   ·cases h
  ·cases h
 ·cases h
def vV:DV->Option DV
 |.own k _ off len=>if 0<len then some (.ptr k off) else none
 |.pv (.lit (.slice none 0 0))=>some (.pv (.lit (.pointer none)))
 |_=>none
def R9 (hh:HeapRel w β hp) (hx:RelD w β hp x v) (h:vV x = some d):
 Does P w β hp (Builtin.unsafeSliceData_ Ts ty #[v]) d hp:=by
 unfold vV at h;split at h
 ·split at h
  ·rename_i k sz off len hl;simp at h;subst h;cases hx with
   |own0=>omega
   |own _ _ _ _ cap b C T m hlt hm h1 h2 h3 h4 =>
     exact Qh hh (v:=.pointer (some ⟨b,off,none⟩)) (run_unsafeSliceData_row w Ts ty ⟨b,off,none⟩ len cap vz) (.ptr k off b hlt hm)
  ·cases h
 ·simp at h;subst h;obtain rfl:=Qk hx;exact Qh hh (v:=.pointer none) (run_unsafeSliceData_nil w Ts ty 0 0) (.pv _ _ (.lit _ rfl))
 ·cases h
def oV:List DV->Option (List UInt8)
 |[]=>some []
 |.pv (.lit (.int .u8 n))::r=>if n=(UInt8.ofNat n.toNat).toNat then (oV r).map (UInt8.ofNat n.toNat::·) else none
 |_=>none
def DO:∀{cs:List DV} {l:List UInt8},oV cs = some l->l.length = cs.length/\∀(j:Nat) (x:UInt8),l[j]? = some x->cs[j]? = some (.pv (.lit (.int .u8 x.toNat)))
 |[],l,h=>by simp[oV] at h;subst h;simp
 |c :: cs,l,h=>by
   unfold oV at h;split at h
   ·rename_i he;simp at he
   ·rename_i n r he;simp at he;obtain⟨rfl,rfl⟩:=he;split at h
    ·rename_i hn;obtain⟨l',e1,rfl⟩:=Option.map_eq_some_iff.1 h;obtain⟨h1,h2⟩:=DO e1;refine⟨by simp[h1],fun j x hj=>?_⟩;cases j with
     |zero=>simp only[JD,JS.injEq] at hj |-;subst hj;rw[<-hn]
     |succ j=>simpa using h2 j x (by simpa using hj)
    ·cases h
   ·cases h
def vW (P:Program) (hp:Qb) (pt:TypeId) (k:Nat) (n:Int):Option (DV × Qb) :=
 match P.underlying pt,hp[k]? with
 |some (.pointer e),some B=>match oV (B.cells.take n.toNat) with
   |some l=>if B.live=true/\B.ty=e/\P.cellsOf e=1/\0<n/\n<=9223372036854775807/\n.toNat<=B.cells.length then some (.pv (.str l),kill hp k) else none
   |none=>none
 |_,_=>none
def vX{w:World}{a:Addr}(h:i≠a.block):(w.freeze a n).heap[i]?=w.heap[i]?:=by
 unfold World.freeze;grind
def Sa{w:World}{a:Addr}(h:w.heap[a.block]?=some (.cells C T m)):∃m',(w.freeze a n).heap[a.block]?=some (.cells C T m'):=by
 unfold World.freeze;grind
def Sb(w:World)(a:Addr)(n:Nat):(w.freeze a n).os=w.os/\(w.freeze a n).tape=w.tape/\(w.freeze a n).output=w.output/\(w.freeze a n).heap.size=w.heap.size:=by
 unfold World.freeze;grind
def Sd(h:HeapRel w β hp)(hk:hp[k]?=some B)(hl:B.live=true)(hm:β.f k=some b):
 Evo w β hp (w.freeze ⟨b,0,none⟩ n) β (kill hp k)/\HeapRel (w.freeze ⟨b,0,none⟩ n) β (kill hp k):=by
 obtain⟨f1,f2,f3,f4⟩:=Sb w ⟨b,0,none⟩ n
 have e:Evo w β hp (w.freeze ⟨b,0,none⟩ n) β (kill hp k):=by
  refine⟨f1,f2,f3,vz,by rw[QP];exact Jd _,fun _ _=>rfl,fun x _ hn=>vX ?_,fun x C T m hx=>?_,fun _ _ h=>DJ h,rfl⟩
  ·intro hxb;subst hxb;exact hn ⟨k,B,hk,hl,hm⟩
  ·by_cases hxb:x = b
   ·subst hxb;obtain⟨m',h'⟩:=Sa (a:=⟨x,0,none⟩) (n:=n) hx;exact⟨C,m',h',rfl⟩
   ·exact⟨C,m,by rw[vX (by simpa using hxb)];exact hx,rfl⟩
 refine⟨e,⟨fun j D b' hj hD hb=>?_,fun j D hj hD hb=>h.none j D (fb hj hD).2 hD hb,fun i j D D' b' hi hj hD hD' h1 h2=>h.inj i j D D' b' (fb hi hD).2 (fb hj hD').2 hD hD' h1 h2,fun j D b' hj hD hb=>h.avoid j D b' (fb hj hD).2 hD hb,fun x hx=>by rw[f4];exact h.bound x hx⟩⟩;obtain⟨hjk,hj'⟩:=fb hj hD;obtain⟨C,g1,g2,g3⟩:=h.blk j D b' hj' hD hb;have hne:b'≠b:=fun hbb=>by subst hbb;exact hjk (h.inj j k D B b' hj' hk hD hl hb hm)
 exact⟨C,by rw[vX (by simpa using hne)];exact g1,g2,fun i d hd=>⟨(g3 i d hd).1,(g3 i d hd).2.mono e⟩⟩
def Se(hh:HeapRel w β hp):Does P w β hp (Builtin.unsafeString_ #[pt,it] ty #[.pointer none,.int .i64 0]) (.pv (.str [])) hp:=
 Qh hh (v:=.string ⟨(([]:List UInt8)).toArray⟩) (run_unsafeString_none w pt it ty none) (.pv _ _ (.str []))
def Sf (hh:HeapRel w β hp) (hx:RelD w β hp (.ptr k 0) v) (h:vW P hp pt k n = some (d,hp')):
 Does P w β hp (Builtin.unsafeString_ #[pt,it] ty #[v,.int .i64 n]) d hp':=by
 unfold vW at h;split at h
 ·rename_i e B hu hk;split at h
  ·rename_i l hl;split at h
   ·rename_i hc;simp at h;obtain⟨rfl,rfl⟩:=h;obtain⟨c1,rfl,c3,c4,c5,c6⟩:=hc;obtain⟨l1,l2⟩:=DO hl;cases hx with
    |ptr _ _ b hlt hm =>
      obtain⟨⟨C,m0,hm0⟩,g1,g2,g3⟩:=hh.blk k B b hk c1 hm;dsimp only at g1 g2 g3;have hlen:l.length=n.toNat:=by rw[l1,J8];omega
      have hn:n=(l.length:Int):=vz;obtain⟨e1,e2⟩:=Sd hh (n:=l.length) hk c1 hm;refine⟨.string ⟨l.toArray⟩,w.freeze ⟨b,0,none⟩ l.length,β,?_,e1,e2,.pv _ _ (.str _)⟩;rw[hn];refine run_unsafeString_row w pt it ty B.ty hu c3 b C.size (by simp[World.shape?,g1]) l (by intro h0;subst h0;simp at hlen;omega) vz vz fun j x hj=>?_;have hcj:=l2 j x hj;have hjl:j<n.toNat:=by rw[<-hlen];exact(Ja.1 hj).1
      rw[Jc,if_pos hjl] at hcj;have hr:=Qk (g3 j _ hcj).2;have hlt2:j<C.size:=by have:=(Ja.1 hcj).1;omega
      have ha:(⟨b,0,none⟩:Addr).add j=⟨b,j,none⟩:=by unfold Addr.add;by_cases hj0:j=0<;>simp[hj0]
      rw[ha];simp[World.cell?,g1];rw[Jb,JP hlt2] at hr;simp at hr;rw[JP hlt2,hr]
   ·cases h
  ·cases h
 ·cases h
end Go.V
namespace Go.V
def vY(P:Program)(T:TypeId):DV->Option DV
 |.ownc _ _ _ _ cap=>match P.underlying T with|some (.slice _)=>some (.int .i64 cap)|_=>none
 |_=>none
def Sg(hh:HeapRel w β hp)(hx:RelD w β hp x v)(h:vY P T x=some d):
 Does P w β hp (Builtin.cap_ #[T] ty #[v]) d hp:=by
 unfold vY at h;split at h
 ·rename_i k sz off len cap;split at h
  ·rename_i e hu;simp at h;subst h;cases hx with
   |ownc=>exact Qh hh (v:=.int .i64 cap) (by simp[Builtin.cap_,run_underlying hu,goInt]) (.pv _ _ (.lit _ rfl))
  ·simp at h
 ·simp at h
def jJ(hp:Qb)(sz:Nat):DV->Option (Nat×List DV)
 |.ownc k sz' off len _=>match Qc hp k with|some cs=>if sz'=sz then some (len,cs.drop off) else none|none=>none
 |x=>dM hp sz x
def mO (hh:HeapRel w β hp) (hsz:0 < sz) (hx:RelD w β hp x v) (h:jJ hp sz x = some (n,cs)):
 (Builtin.lenOf v).run P w=.ok n w/\(∀d∈cs,d.one=true)/\∀m,m<=n->m*sz<=cs.length->∃vs:Array Value,(Builtin.firstCells sz m v).run P w=.ok vs w/\RelL w β hp (cs.take (m*sz)) vs:=by
 unfold jJ at h;split at h
 ·rename_i k sz' off len cap;split at h
  ·rename_i bs hb;split at h
   ·rename_i hc;simp at h;obtain⟨rfl,rfl⟩:=h;subst hc;cases hx with
    |ownc _ _ _ _ _ b o C T m hk hm h1 h2 h3 h4 h5 =>
      obtain⟨B,⟨C',m',hm'⟩,g1,g2,g3,g4,g5,g6⟩:=gu hh hb hm;rw[h3] at g4;simp at g4;obtain⟨hCC,rfl,rfl⟩:=g4;subst hCC;have g5:_<=C.size:=g5;refine⟨by simp[Builtin.lenOf],fun d hd=>?_,fun m hmn hml=>?_⟩
      ·obtain ⟨i,hi⟩:=Jo.1 (JH hd);exact(g6 i d hi).1
      rw[JT] at hml;by_cases hm0:m*sz'=0
      ·refine ⟨#[],?_,by rw [hm0];simp [RelL]⟩;simp[Builtin.firstCells,hm0,loadCells,loadCellsFrom]
      have ho:o=off:=h5 (by
       rcases Nat.eq_zero_or_pos m with rfl|h0
       ·simp at hm0
       ·omega)
      subst ho
      have hcell:∀j,j<m*sz'->w.cell? ((⟨b,o,none⟩:Addr).add j)=some (C.getD (o+j) undef):=fun j hj=>by
       rw[gq];exact iQ h3 vz
      have hr:=run_loadCells (P:=P) w ⟨b,o,none⟩ (m*sz') (fun j=>C.getD (o+j) undef) hcell;refine⟨((JJ (m*sz')).map fun j=>C.getD (o+j) undef).toArray,by simpa [Builtin.firstCells] using hr,vg,fun i d hi=>?_⟩;rw[Jc] at hi;split at hi
      ·rename_i hlt;rw[Jf] at hi;have:=(g6 _ _ hi).2;simpa [hlt] using this
      ·simp at hi
   ·simp at h
  ·simp at h
 ·obtain ⟨a,b,c,d⟩:=mK (P:=P) hh hsz hx h;exact⟨a,c,fun m hm _=>d m hm⟩
def DP:DV->Option (Nat×Nat×Nat×Nat)
 |.own k sz off len=>some (k,sz,off,len)
 |.ownc k sz off len _=>some (k,sz,off,len)
 |_=>none
def isRoom:DV->Bool
 |.ownc _ _ _ _ _=>true
 |_=>false
def vZ (P:Program) (hp:Qb) (dT:TypeId) (d s:DV):Option (DV × Qb) :=
 match QL P dT,DP d with
 |some (none,_,sz),some (k,sz',off,len) =>
   match jJ hp sz s,Qc hp k with
   |some (m,news),some cs =>
     if 0<sz/\sz'=sz/\off<=cs.length/\min m len*sz<=news.length then some (.int .i64 (min m len:Nat),Qm hp k (splice cs off (news.take (min m len*sz)))) else none
   |_,_=>none
 |_,_=>none
def v9(P:Program)(hp:Qb)(dT:TypeId)(d s:DV):Option (DV×Qb):=if (isRoom d||isRoom s)=true then vZ P hp dT d s else vO P hp dT d s
def Sh (hh:HeapRel w β hp) (hd:RelD w β hp d dv) (hs:RelD w β hp s sv) (h:vZ P hp dT d s = some (r,hp')):
 Does P w β hp (Builtin.copy_ #[dT,sT] ty #[dv,sv]) r hp':=by
 unfold vZ at h;split at h
 ·rename_i e sz k sz' off len he hdst;split at h
  ·rename_i m news cs hsrc hb;split at h
   ·rename_i hc;simp at h;obtain⟨rfl,rfl⟩:=h;obtain⟨hszp,rfl,hoff,hnl⟩:=hc;obtain⟨hu,i,hi,rfl⟩:=Qq he;obtain⟨hlen,hone,hcells⟩:=mO (P:=P) hh hszp hs hsrc;obtain⟨nv,hnv,hnr⟩:=hcells (min m len) (JY _ _) hnl;have hones:Qp (news.take (min m len*i.size))=true:=vP fun d hd=>hone d (Jq hd);have hnn:(news.take (min m len*i.size)).length=min m len*i.size:=vg;have hz':Nat.min m len=min m len:=rfl
    -- what the target is
    have key:(∃a c,dv = .slice a len c/\len = 0)\/∃b c C T q,dv = .slice (some ⟨b,off,none⟩) len c/\β.f k = some b/\w.heap[b]? = some (.cells C T q)/\off + len * i.size<=C.size:=by
     unfold DP at hdst;split at hdst
     ·simp at hdst;obtain⟨rfl,rfl,rfl,rfl⟩:=hdst;cases hd with
      |own0 _ _ a=>exact .inl ⟨_,_,rfl,rfl⟩
      |own _ _ _ _ cap b C T m0 hk hm h1 h2 h3 h4=>exact .inr ⟨b,cap,C,T,m0,rfl,hm,h3,Jt (JC (Je _ h1) _) h4⟩
     ·rename_i k1 sz1 off1 len1 cap;simp at hdst;obtain⟨rfl,rfl,rfl,rfl⟩:=hdst;cases hd with
      |ownc _ _ _ _ _ b o C T m0 hk hm h1 h2 h3 h4 h5 =>
        by_cases h0:len1=0
        ·exact .inl ⟨_,_,rfl,h0⟩
        ·rw [h5 vz];exact .inr ⟨b,cap,C,T,m0,rfl,hm,h3,Jt (JC (Je _ h1) _) h4⟩
     ·simp at hdst
    rcases key with⟨a,c,rfl,rfl⟩|⟨b,c,C,T,q,rfl,hm,hC,hfit⟩
    ·have hz:min m 0 = 0:=vz;simp only[hz,J6,JO] at *;have hnv0:nv=#[]:=by have:=hnr.1;simp at this;exact Jj this.symm
     subst hnv0;rw[oS,oR hb];refine Qh hh (v:=.int .i64 0) ?_ (.pv _ _ (.lit _ rfl));cases a<;>simp[Builtin.copy_,run_underlying hu,hlen,sizeOf,typeInfo,hi,hnv,storeCells,goInt]
    ·have hml:min m len * i.size<=len * i.size:=Je _ (J9 _ _);obtain⟨w',g1,g2,g3⟩:=vF (P:=P) (off:=off) hh hb hm hnr.1 hnr.2 hones hoff hC (by rw[hnn];omega);refine⟨.int .i64 (min m len:Nat),w',β,?_,g2,g3,.pv _ _ (.lit _ rfl)⟩;simp[Builtin.copy_,run_underlying hu,hlen,sizeOf,typeInfo,hi,hz',hnv,g1,goInt]
   ·simp at h
  ·simp at h
 ·simp at h
def Si(hh:HeapRel w β hp)(hd:RelD w β hp d dv)(hs:RelD w β hp s sv)(h:v9 P hp dT d s=some (r,hp')):
 Does P w β hp (Builtin.copy_ #[dT,sT] ty #[dv,sv]) r hp':=by
 unfold v9 at h;split at h
 ·exact Sh hh hd hs h
 ·exact RR hh hd hs h
def oW(P:Program)(T:TypeId):Bool:=match P.underlying T with|some (.int _)=>true|_=>false
def wa (P:Program) (hp:Qb) (sT xT:TypeId) (k sz' off n cap:Nat) (x:DV):Option (DV × Qb) :=
 match QL P sT with
 |some (none,e,sz) =>
   match bI P e,QO P e,jJ hp sz x,hp[k]? with
   |some by_,some z,some (m,news),some B =>
     if bX P xT=true/\0<sz/\z.length=sz/\0<by_/\(n+m)*by_<=140737488355328/\B.live=true/\B.ty=e/\sz'=sz/\off+n*sz<=B.cells.length/\m*sz<=news.length then
      if n+m<=cap then some (.ownc k sz off (n+m) cap,Qm hp k (splice B.cells (off+n*sz) (news.take (m*sz))))
      else some (.own hp.length sz 0 (n+m),hp++[⟨e,true,(B.cells.drop off).take (n*sz)++news.take (m*sz)⟩])
     else none
   |_,_,_,_=>none
 |_=>none
def wb (P:Program) (hp:Qb) (sT xT:TypeId) (k sz' off n cap:Nat) (l:Int):Option (DV × Qb) :=
 match QL P sT,oW P xT with
 |some (none,e,sz),true =>
   match bI P e,QO P e,hp[k]? with
   |some by_,some z,some B =>
     if 0<l/\l<=1000000000/\0<sz/\z.length=sz/\Qp z=true/\0<by_/\(n+l.toNat)*by_<=140737488355328/\B.live=true/\B.ty=e/\sz'=sz/\off+n*sz<=B.cells.length/\cap<n+l.toNat then
      some (.own hp.length sz 0 (n+l.toNat),hp++[⟨e,true,(B.cells.drop off).take (n*sz)++mk z l.toNat⟩])
     else none
   |_,_,_=>none
 |_,_=>none
def mP (P:Program) (hp:Qb) (sT xT:TypeId) (s x:DV):Option (DV × Qb) :=
 match s with
 |.ownc k sz' off n cap=>match x with
   |.pv (.lit (.int _ l))=>wb P hp sT xT k sz' off n cap l
   |x=>wa P hp sT xT k sz' off n cap x
 |.pv (.lit (.slice none 0 0))=>kY P hp sT xT (.pv (.slc [])) x
 |s=>kY P hp sT xT s x
def Sj (hh:HeapRel w β hp) (hs:RelD w β hp (.ownc k sz' off n cap) sv) (hx:RelD w β hp x xv) (h:wa P hp sT xT k sz' off n cap x = some (d,hp')):
 Does P w β hp (Builtin.append_ #[sT,xT] ty #[sv,xv]) d hp':=by
 unfold wa at h;split at h
 ·rename_i e sz he;split at h
  ·rename_i by_ z m news B hib hz hsrc hk;obtain⟨i,hi,rfl⟩:=oM hib;split at h
   ·rename_i hc;obtain⟨hni,hszp,hzl,hbp,hby,hl,hty,rfl,hfit,hmn⟩:=hc;obtain⟨hu,i',hi',rfl⟩:=Qq he;rw[hi] at hi';simp at hi';subst hi';obtain⟨zv,_,⟨i2,hi2,hz2⟩,hzr⟩:=gZ hz w β hp;rw[hi] at hi2;simp at hi2;subst hi2;have hzs:zv.cells.size=i.size:=by rw[<-hzr.1,hzl]
    have hbc:Qc hp k=some B.cells:=by simp[Qc,hk,hl]
    obtain⟨hlen,hone,hcells⟩:=mO (P:=P) hh hszp hx hsrc;obtain⟨_,_,hcells'⟩:=mO (P:=P) hh.drew hszp (hx.mono (ia w β hp)) hsrc;obtain⟨nv,hnv,hnr⟩:=hcells m (Jd _) hmn;obtain⟨nv',hnv',hnr'⟩:=hcells' m (Jd _) hmn
    have hmax:n+m<=maxLen:=by
     have:n+m<=(n+m)*i.bytes:=Jp _ hbp;simp[maxLen];omega
    have hnn:(news.take (m*i.size)).length=m*i.size:=vg;have hones:∀d∈news.take (m*i.size),d.one=true:=fun d hd=>hone d (Jq hd);cases hs with
    |ownc _ _ _ _ _ b o C T m0 hk' hm h1 h2 h3 h4 h5 =>
      split at h
      ·rename_i hroom;simp at h;obtain⟨rfl,rfl⟩:=h;by_cases hm0:m=0
       ·subst hm0;have hnv0:nv=#[]:=by have:=hnr.1;simp at this;exact Jj this.symm
        subst hnv0;have hrun:=oP (P:=P) (w:=w) (ty:=ty) (a:=some ⟨b,o,none⟩) (n:=n) (cap:=cap) (w':=w) hu hni hi hlen hnv hroom (fun ad _=>by simp[storeCells]) (fun _=>rfl);simp only[J6,JO];rw[oS,oR hbc];exact Qh hh hrun (.ownc _ _ _ _ _ b o C T m0 hk' hm vz h2 h3 h4 h5)
       ·have ho:o = off:=h5 vz;subst ho;have hcs:o+(n+m)*i.size<=C.size:=Jt (JC (Je _ hroom) _) h4;rw[Jr] at hcs;obtain⟨w',g1,g2,g3⟩:=vF (P:=P) (off:=o+n*i.size) hh hbc hm hnr.1 hnr.2 (vP hones) hfit h3 (by rw[hnn];omega)
        have hrun:=oP (P:=P) (w:=w) (ty:=ty) (a:=some ⟨b,o,none⟩) (n:=n) (cap:=cap) (w':=w') hu hni hi hlen hnv hroom (fun ad had=>by
         simp at had;subst had;rw[gq]
         exact g1) vv
        obtain⟨C',m',g4,g5⟩:=g2.shape b C T m0 h3;exact⟨_,w',β,hrun,g2,g3,.ownc _ _ _ _ _ b o C' T m' (by have:=g2.len;omega) hm vz h2 g4 (by rw[g5];exact h4) (fun _=>rfl)⟩
      ·rename_i hroom;simp at h;obtain⟨rfl,rfl⟩:=h
       have hor:∀u:World,u=w\/u=w.drew->∃ov,(Builtin.firstCells i.size n (.slice (some ⟨b,o,none⟩) n cap)).run P u=.ok ov u/\RelL w β hp ((B.cells.drop off).take (n*i.size)) ov:=fun u hu2=>by
        have hx0:jJ hp i.size (.ownc k i.size off n cap)=some (n,B.cells.drop off):=by simp[jJ,hbc]
        have hl0:n*i.size<=(B.cells.drop off).length:=by rw[JT];omega
        have r0:RelD w β hp (.ownc k i.size off n cap) (.slice (some ⟨b,o,none⟩) n cap):=.ownc _ _ _ _ _ b o C T m0 hk' hm h1 h2 h3 h4 h5;rcases hu2 with rfl|rfl
        ·obtain ⟨_,_,q⟩:=mO (P:=P) hh hszp r0 hx0;exact q n (Jd _) hl0
        ·obtain ⟨_,_,q⟩:=mO (P:=P) hh.drew hszp (r0.mono (ia w β hp)) hx0;obtain⟨vs,q1,q2⟩:=q n (Jd _) hl0;exact⟨vs,q1,q2.1,fun j d hd=>(q2.2 j d hd).mono (oO w β hp)⟩
       obtain⟨ov,hov,hovr⟩:=hor _ (.inr rfl);have hnr'':RelL w β hp (news.take (m*i.size)) nv':=⟨hnr'.1,fun j d hd=>(hnr'.2 j d hd).mono (oO w β hp)⟩
       have holen:((B.cells.drop off).take (n*i.size)).length=n*i.size:=vg;obtain⟨B',⟨C',m',hm'⟩,q1,q2,q3,q4,q5,q6⟩:=gu hh hbc hm;have hrun:=rX (P:=P) (w:=w) (ty:=ty) hu hni hi hz2 hlen hov hnv' vz hbp hby
       obtain⟨β',g1,g2,g3⟩:=mL (cap:=cap) (sz:=i.size) (e:=e) (z:=zv) (n:=n) (m:=m) hh (Evo.refl w β hp) rfl hovr hnr'' (fun d hd=>by
        rcases JK.1 hd with hd|hd
        ·obtain ⟨j,hj⟩:=Jo.1 (JH (Jq hd));exact(q6 j d hj).1
        ·exact hones d hd) holen hnn hzs hmax _ rfl
       exact⟨_,_,β',hrun,g1,g2,g3⟩
   ·simp at h
  ·simp at h
 ·simp at h
def DQ(hu:P.underlying sT=some (.slice e))(hx:P.underlying xT=some (.int kn))(hi:P.info? e=some i)(hz:i.zero=some z)(h1:(Builtin.firstCells i.size n (.slice a n cap)).run P w.drew=.ok olds w.drew)(hl0:0<l)(hl1:l<=1000000000)(hsz:0<i.size)(hg:cap<n+l.toNat)(hb:0<i.bytes)(hby:(n+l.toNat)*i.bytes<=140737488355328):
 (Builtin.append_ #[sT,xT] ty #[.slice a n cap,.int k l]).run P w = .ok (.slice (some ⟨w.heap.size,0,none⟩) (n + l.toNat) (grownCap w (n + l.toNat) cap e))
  (w.drew.alloc (.cells (olds++Builtin.zeroCells z.cells l.toNat++Builtin.zeroCells z.cells (grownCap w (n+l.toNat) cap e-(n+l.toNat))) e)):=by
 have hw:IntKind.i64.wrap l=l:=by rw[IntKind.wrap_i64];omega
 have hle:n+l.toNat<=(n+l.toNat)*i.bytes:=Jp _ hb;have hn:¬(n+l.toNat<=cap):=vz;have h0:¬l<0:=vz
 have h48:¬(281474976710656<l*(i.bytes:Int)):=by
  have h2:l.toNat*i.bytes<=(n+l.toNat)*i.bytes:=Je _ (Nat.le_add_left _ _);have h3:l*(i.bytes:Int)=((l.toNat*i.bytes:Nat):Int):=by rw[Int.natCast_mul];congr 1;omega
  rw[h3];omega
 have h63':¬(9223372036854775807<((n:Int)+(l.toNat:Int))):=vz;have h48':¬(281474976710656<Builtin.nextslicecap (n+l.toNat) cap*i.bytes):=by have:=growslice_fits hg hby;omega
 have h63m:¬(9223372036854775807<((n:Int)+max l 0)):=vz
 have hnz:¬(l.toNat*i.size=0):=by
  have:=Nat.mul_pos (show 0<l.toNat by omega) hsz;omega
 clear hle hby hg hb;simp[Builtin.append_,run_underlying hu,run_underlying hx,asInt,asIntOf,sizeOf,typeInfo,zeroValue,hi,hz,hw,h0,h48,hn,h63',h63m,h48',hnz,Question.forced,h1,newRow,grownCap]
theorem DR(n:Nat):Builtin.zeroCells z n=madeCells z (n*z.size):=rfl
def Sk (hh:HeapRel w β hp) (hs:RelD w β hp (.ownc k sz' off n cap) sv) (h:wb P hp sT xT k sz' off n cap l = some (d,hp')):
 Does P w β hp (Builtin.append_ #[sT,xT] ty #[sv,.int kx l]) d hp':=by
 unfold wb at h;split at h
 ·rename_i e sz he hint;split at h
  ·rename_i by_ z B hib hz hk;obtain⟨i,hi,rfl⟩:=oM hib;split at h
   ·rename_i hc;simp at h;obtain⟨rfl,rfl⟩:=h;obtain⟨hl0,hl1,hszp,hzl,hzo,hbp,hby,hl,hty,rfl,hfit,hgr⟩:=hc;obtain⟨hu,i',hi',rfl⟩:=Qq he;rw[hi] at hi';simp at hi';subst hi'
    obtain⟨kn,hxu⟩:∃kn,P.underlying xT=some (.int kn):=by
     unfold oW at hint;split at hint
     ·exact⟨_,vq⟩
     ·cases hint
    obtain⟨zv,_,⟨i2,hi2,hz2⟩,hzr⟩:=gZ hz w β hp;rw[hi] at hi2;simp at hi2;subst hi2;have hzs:zv.cells.size=i.size:=by rw[<-hzr.1,hzl]
    have hbc:Qc hp k=some B.cells:=by simp[Qc,hk,hl]
    have hmax:n+l.toNat<=maxLen:=by
     have:n+l.toNat<=(n+l.toNat)*i.bytes:=Jp _ hbp;simp[maxLen];omega
    have hx0:jJ hp i.size (.ownc k i.size off n cap)=some (n,B.cells.drop off):=by simp[jJ,hbc]
    have hl0':n*i.size<=(B.cells.drop off).length:=by rw[JT];omega
    obtain⟨_,hone,q⟩:=mO (P:=P) hh.drew hszp (hs.mono (ia w β hp)) hx0;obtain⟨ov,q1,q2⟩:=q n (Jd _) hl0';have hovr:RelL w β hp ((B.cells.drop off).take (n*i.size)) ov:=⟨q2.1,fun j d hd=>(q2.2 j d hd).mono (oO w β hp)⟩
    obtain⟨g1,g2⟩:=mI hzr vz l.toNat (l.toNat*zv.cells.size) (by rw[hzr.1];exact Jd _);have hml:(mk z l.toNat).length=(madeCells zv.cells (l.toNat*zv.cells.size)).size:=by rw[fK,size_madeCells,hzr.1]
    have holen:((B.cells.drop off).take (n*i.size)).length=n*i.size:=vg;cases hs with
    |ownc _ _ _ _ _ b o C T m0 hk' hm h1 h2 h3 h4 h5 =>
      have hrun:=DQ (P:=P) (w:=w) (ty:=ty) (k:=kx) hu hxu hi hz2 q1 hl0 hl1 hszp hgr hbp hby;rw[DR l.toNat] at hrun
      obtain⟨β',r1,r2,r3⟩:=mL (cap:=cap) (sz:=i.size) (e:=e) (z:=zv) (n:=n) (m:=l.toNat) hh (Evo.refl w β hp) rfl hovr (news:=mk z l.toNat) (nv:=madeCells zv.cells (l.toNat*zv.cells.size)) ⟨hml,g2⟩ (fun d hd=>by
       rcases JK.1 hd with hd|hd
       ·exact hone d (Jq hd)
       ·obtain ⟨j,hj⟩:=Jo.1 hd
        exact mE (mH hzo _) j d hj) holen (by rw[fK,hzl]) hzs hmax _ rfl
      exact⟨_,_,β',hrun,r1,r2,r3⟩
   ·simp at h
  ·simp at h
 ·simp at h
def Sl(hh:HeapRel w β hp)(hs:RelD w β hp s sv)(hx:RelD w β hp x xv)(h:mP P hp sT xT s x=some (d,hp')):
 Does P w β hp (Builtin.append_ #[sT,xT] ty #[sv,xv]) d hp':=by
 unfold mP at h;split at h
 ·split at h
  ·obtain rfl:=Qk hx;exact Sk hh hs h
  ·exact Sj hh hs hx h
 ·obtain rfl:=Qk hs;exact DL hh (.pv _ _ (Dg w _ none vv)) hx h
 ·exact DL hh hs hx h
def wc (P:Program) (hp:Qb) (T:TypeId):DV->Option (DV × Qb)
 |.ownc k sz off len _ =>
   match QL P T with
   |some (none,e,_) =>
     match QO P e,Qc hp k with
     |some z,some cs=>if z.length=sz/\0<sz/\off+len*sz<=cs.length/\Qp z=true then some (.tup [],Qm hp k (splice cs off (mk z len))) else none
     |_,_=>none
   |_=>none
 |x=>vQ P hp T x
def Sm (hh:HeapRel w β hp) (hx:RelD w β hp x v) (h:wc P hp T x = some (d,hp')):
 Does P w β hp (Builtin.clear_ #[T] ty #[v]) d hp':=by
 unfold wc at h;split at h
 ·rename_i k sz off len cap;split at h
  ·rename_i e sz' he;split at h
   ·rename_i z cs hz hb;split at h
    ·rename_i hc;simp at h;obtain⟨rfl,rfl⟩:=h;obtain⟨hzl,hsz,hfit,hone⟩:=hc;obtain⟨hu,i,hi,his⟩:=Qq he;obtain⟨zv,hzr,_,hrel⟩:=gZ hz w β hp;have unit:RelD w β hp (.tup []) (.tuple #[]):=.tup [] #[] rfl vv
     have none_:∀a c,Does P w β hp (Builtin.clear_ #[T] ty #[.slice a 0 c]) (.tup []) hp:=fun a c=>
      Qh hh (v:=.tuple #[]) (by cases a<;>simp[Builtin.clear_,run_underlying hu]) unit
     cases hx with
     |ownc _ _ _ _ _ b o C T0 m hk hm h1 h2 h3 h4 h5 =>
       cases len with
       |zero =>
         have e2:Qm hp k (splice cs off (mk z 0))=hp:=by rw[show mk z 0=[] from rfl,oS,oR hb]
         rw[e2];exact none_ _ cap
       |succ n =>
         have ho:o=off:=h5 vz;subst ho;obtain⟨g1,g2⟩:=mI hrel vz (n+1) ((n+1)*zv.cells.size) (by rw[hrel.1];exact Jd _);have hlen:(mk z (n+1)).length=(madeCells zv.cells ((n+1)*zv.cells.size)).size:=by rw[fK,size_madeCells,hrel.1]
         obtain⟨w',s1,s2,s3⟩:=oI (P:=P) (off:=o) hh hb hm hlen g2 (mH hone _) (by rw[fK,hzl];exact hfit);refine⟨.tuple #[],w',β,?_,s2,s3,.tup [] #[] rfl vv⟩;have e3:Builtin.zeroCells zv.cells (n+1)=madeCells zv.cells ((n+1)*zv.cells.size):=rfl;simp[Builtin.clear_,run_underlying hu,hzr];rw[e3,s1];rfl
    ·simp at h
   ·simp at h
  ·simp at h
 ·exact R0 hh hx h
def gx(hp:Qb):List Nat->Qb
 |[]=>hp
 |k::r=>gx (kill hp k) r
end Go.V
namespace Go.V
def Runs(P:Program)(g:FuncId)(vs:Array Value)(w:World)(R:Ending->World->Prop):Prop:=
 (∃ fn,P.funcs[g]?=some fn/\(fn.name == "runtime.NumGoroutine")=false/\fn.body.isNone=false/\Calls P g vs w R) \/
 (∃fn v w',P.funcs[g]?=some fn/\fn.body.isNone=true/\(callFunc g vs).run P w=.ok (.value v) w'/\R (.returned v) w')
def Runs.mono(h:Runs P g vs w R)(hr:∀e w',R e w'->R' e w'):Runs P g vs w R':=
 h.imp (fun⟨fn,a,b,c,d⟩=>⟨fn,a,b,c,d.mono hr⟩) (fun⟨fn,v,w',a,b,c,d⟩=>⟨fn,v,w',a,b,c,hr _ _ d⟩)
structure VCalls(P:Program)(g:FuncId)(args:List DV)(h:Qb)(R:DV->Qb->Prop):Prop where
 run:∀(w:World) (β:Map) (vs:Array Value),HeapRel w β h->RelL w β h args vs ->
  Runs P g vs w fun e w'=>∃v r h' β',e=.returned v/\Evo w β h w' β' h'/\HeapRel w' β' h'/\RelD w' β' h' r v/\R r h'
def VCalls.mono(c:VCalls P g args h R)(hr:∀r h',R r h'->R' r h'):VCalls P g args h R':=
 ⟨fun w β vs hh ha=>(c.run w β vs hh ha).mono fun _ _ ⟨v,r,h',β',a,b,c,d,k⟩=>⟨v,r,h',β',a,b,c,d,hr _ _ k⟩⟩
def jK(t:Bool)(x y:DV):DV:=
 match x,y with
 |.pv (.lit (.bool p)),.pv (.lit (.bool q))=>.bool (bif t then p else q)
 |x,y=>if t then x else y
def Sn(hx:t=true->RelD w β hp x v)(hy:t=false->RelD w β hp y u):RelD w β hp (jK t x y) (if t then v else u):=by
 unfold jK;grind
def Qn(G:Bool):DV->DV
 |.opt g d=>if (!G||g)=true then d else .opt g d
 |d=>d
def gy (h:RelD w β hp d v) (hG:G = true):RelD w β hp (Qn G d) v:=by
 cases h with
 |opt g d v h1 h2 =>
   simp only[Qn];split
   ·rename_i hc;simp[hG] at hc;exact h1 hc
   ·exact .opt g d v h1 h2
 |_=>simp only[Qn];constructor<;>assumption
def parts(ev:Operand->DV)(ps:Array (Nat×Operand)):List (Nat×DV):=ps.toList.map fun x=>(x.1,ev x.2)
def gz(P:Program)(hp:Qb)(b:Builtin)(Ts:Array TypeId)(args:List DV):Option (DV×Qb):=
 match b,Ts.toList,args with
 |.len,[T],[x]=>(fL P T x).map fun d=>(d,hp)
 |.append,[sT,xT],[s,x]=>mP P hp sT xT s x
 |.copy,[dT,_],[d,s]=>v9 P hp dT d s
 |.min,_,[x,y]=>(vmin x y).map fun d=>(d,hp)
 |.max,_,[x,y]=>(vmax x y).map fun d=>(d,hp)
 |.unsafeSliceData,_,[x]=>(vV x).map fun d=>(d,hp)
 |.unsafeString,[pt,_],[.ptr k 0,.pv (.lit (.int .i64 n))]=>vW P hp pt k n
 |.unsafeString,[_,_],[.pv (.lit (.pointer none)),.pv (.lit (.int .i64 0))]=>some (.pv (.str []),hp)
 |.clear,[T],[x]=>wc P hp T x
 |.cap,[T],[x]=>(vY P T x).map fun d=>(d,hp)
 |_,_,_=>none
def ic (P:Program) (op:BinOp) (T:TypeId) (x y:DV):Option DV :=
 match x,y with
 |.pv (.lit (.int k a)),.pv (.lit (.int k' b))=>Qz op k a k' b
 |.pv (.str a),.pv (.str b)=>jI op a b
 |.pv (.lit (.bool a)),.pv (.lit (.bool b)) =>
   match op,P.underlying T with
   |.eql,some .bool=>some (.bool (a==b))
   |.neq,some .bool=>some (.bool (!(a==b)))
   |_,_=>none
 |.agg xs,.agg ys =>
   match vt P T,bJ P 8 T with
   |some (some _),some l =>
     if P.eqGuardType P.depth T then none else
     match op,QZ xs ys l with
     |.eql,some b=>some (.bool b)
     |.neq,some b=>some (.bool (!b))
     |_,_=>none
   |_,_=>none
 |.ptr _ _,.pv (.lit (.pointer none))=>oU P op T false
 |.pv (.lit (.pointer none)),.pv (.lit (.pointer none))=>oU P op T true
 |.ptr k off,.ptr k' off'=>if k=k'/\off=off' then oU P op T true else none
 |_,_=>none
def mQ:DV->Option Bool
 |.pv (.lit (.slice ad _ _))=>some ad.isNone
 |.pv (.sl ((_::_)::_))=>some false
 |.pv (.slc ((_::_)::_))=>some false
 |.own _ _ _ len=>if 0<len then some false else none
 |_=>none
def oX(op:BinOp)(b:Option Bool):Option DV:=
 match b,op with
 |some b,.eql=>some (.bool b)
 |some b,.neq=>some (.bool (!b))
 |_,_=>none
def jL (P:Program) (op:BinOp) (T:TypeId) (a:DV) (y:Operand) (b:DV):Option DV :=
 match y with
 |.const (.slice none 0 0)=>match P.underlying T with
   |some (.slice _)=>oX op (mQ a)
   |_=>none
 |_=>ic P op T a b
def kZ(P:Program)(hp:Qb)(S T:TypeId)(x:DV):Option (DV×Qb):=
 match x with
 |.ptr k off=>(mN P hp S T k off).map fun d=>(d,hp)
 |x=>ib P hp S T x
def wh(P:Program)(hp:Qb)(T:TypeId)(k off:Nat):Option DV:=
 match QL P T,Qc hp k with
 |some (some n,_,sz),some cs=>if off+n*sz<=cs.length/\n<=9223372036854775807 then some (.own k sz off n) else none
 |_,_=>none
def iT(P:Program)(hp:Qb)(T:TypeId)(x:DV)(lo hi mx:Option DV):Option DV:=
 match x,lo,hi,mx with
 |.ptr k off,none,none,none=>wh P hp T k off
 |x,lo,hi,mx=>bW P T x lo hi mx
def So (hh:HeapRel w β hp) (hx:RelD w β hp x v) (hlo:(∀d,lo = some d->∃v,lv = some v/\RelD w β hp d v)/\(lo = none->lv = none)) (hhi:(∀d,hi = some d->∃v,hv = some v/\RelD w β hp d v)/\(hi = none->hv = none)) (hmx:(∀d,mx = some d->∃v,mv = some v/\RelD w β hp d v)/\(mx = none->mv = none)) (h:iT P hp T x lo hi mx = some d):
 Does P w β hp (Instr.sliceAt T v lv hv mv) d hp:=by
 unfold iT at h;split at h
 ·rename_i k off;obtain rfl:=hlo.2 rfl;obtain rfl:=hhi.2 rfl;obtain rfl:=hmx.2 rfl;unfold wh at h;split at h
  ·rename_i n e sz cs he hb;split at h
   ·rename_i hc;simp at h;subst h;cases hx with
    |ptr _ _ b hk hm =>
      obtain⟨hu,i',hi',rfl⟩:=vG he;obtain⟨B,C,_,_,_,hC,hle,_⟩:=gu hh hb hm;refine Qh hh (v:=.slice (some ⟨b,off,none⟩) n n) ?_ (.own k i'.size off n n b C.v B.ty _ hk hm (Jd _) hc.2 hC (Jt hc.1 hle));simp[Instr.sliceAt,Instr.sureAddr,Instr.sliceBounds,run_underlying hu,sizeOf,typeInfo,hi',Addr.add]
   ·simp at h
  ·simp at h
 ·exact RB hh hx hlo hhi hmx h
def vop (P:Program) (ev:Operand->DV) (hp:Qb) (o:Op):Option (DV × Qb) :=
 match o with
 |.move x|.assign x=>some (ev x,hp)
 |.pick c a b =>
   match ev c with
   |.pv (.lit (.bool t))=>some (jK t (Qn t (ev a)) (Qn (!t) (ev b)),hp)
   |_=>none
 |.alloc T=>kW P hp T
 |.box T x=>mF hp T (ev x)
 |.build T ps=>(oJ P T (parts ev ps)).map fun d=>(d,hp)
 |.buildSlice T n ps=>mJ P hp T n (parts ev ps)
 |.load T a=>(eD P hp T (ev a)).map fun d=>(d,hp)
 |.store T a x=>(jE P hp T (ev a) (ev x)).map fun h=>(.tup [],h)
 |.nilCheck x=>match ev x with
   |.ptr k off=>some (.ptr k off,hp)
   |.ip cs=>some (.ip cs,hp)
   |_=>none
 |.binOp op T x y _=>(jL P op T (ev x) y (ev y)).map fun d=>(d,hp)
 |.unOp op _ x=>(vun op (ev x)).map fun d=>(d,hp)
 |.convert S T x=>kZ P hp S T (ev x)
 |.makeFunc fn first cap=>some (.fn fn (first.toList.map ev) (cap.toList.map ev),hp)
 |.makeSlice T l c=>oN P hp T (ev l) (ev c)
 |.slice T x lo hi mx=>(iT P hp T (ev x) (lo.map ev) (hi.map ev) (mx.map ev)).map fun d=>(d,hp)
 |.fieldAddr T x f=>(g8 P T f (ev x)).map fun d=>(d,hp)
 |.field T x f=>(kX P T f (ev x)).map fun d=>(d,hp)
 |.indexAddr T x i=>(g9 P T (ev x) (ev i)).map fun d=>(d,hp)
 |.index T x i=>(jF P T (ev x) (ev i)).map fun d=>(d,hp)
 |.extract x i=>(mM (ev x) i).map fun d=>(d,hp)
 |.call c=>match c.callee with
   |.builtin b=>gz P hp b c.argTypes (c.args.toList.map ev)
   |_=>none
 |_=>none
def iU(P:Program)(w:World)(β:Map)(hp:Qb)(m:Sem Next)(d:DV)(hp':Qb):Prop:=
 ∃v w' β',(m.run P w=.ok (.value v) w'\/(m.run P w=.ok .skip w'/\v=undef))/\Evo w β hp w' β' hp'/\HeapRel w' β' hp'/\RelD w' β' hp' d v
def Does.op(h:Does P w β hp m d hp'):iU P w β hp (do pure (.value (<-m))) d hp':=by
 obtain⟨v,w',β',h1,h2⟩:=h;exact⟨v,w',β',.inl (by simp[h1]),h2⟩
def rY {hp:Qb} {ev:Operand->DV} {ρ:Operand->Value} (hev:∀x,RelD w β hp (ev x) (ρ x)) (ps:Array (Nat × Operand)):
 (parts ev ps).length=(ps.map fun(i,x)=>(i,ρ x)).toList.length/\∀(i:Nat) (p:Nat×DV),(parts ev ps)[i]?=some p->∃q,(ps.map fun(i,x)=>(i,ρ x)).toList[i]?=some q/\q.1=p.1/\RelD w β hp p.2 q.2:=by
 refine⟨by simp[parts],fun i p hi=>?_⟩;simp only[parts,Jl] at hi;cases hx:ps.toList[i]? with
 |none=>simp[hx] at hi
 |some x =>
   simp[hx] at hi;subst hi;refine⟨(x.1,ρ x.2),?_,rfl,hev _⟩;simp at hx;simp[hx]
def oY (hev:∀x,RelD w β hp (ev x) (ρ x)) (xs:Array Operand):RelL w β hp (xs.toList.map ev) (xs.map ρ):=by
 refine⟨vv,fun i d hi=>?_⟩;rw[Jl] at hi;cases hx:xs.toList[i]? with
 |none=>simp[hx] at hi
 |some x =>
   simp[hx] at hi;subst hi;have hlt:i<xs.size:=by have:=(Ja.1 hx).1;simpa using this
   simp at hx;have e:(xs.map ρ).getD i undef=ρ x:=by simp[Jb,hx]
   rw[e];exact hev x
def wi(hev:∀x,RelD w β hp (ev x) (ρ x))(x:Option Operand):(∀d,x.map ev=some d->∃v,x.map ρ=some v/\RelD w β hp d v)/\(x.map ev=none->x.map ρ=none):=by
 cases x with
 |none=>simp
 |some x=>simpa using hev x
def Sq (hh:HeapRel w β hp) (hx:RelD w β hp a v) (hy:RelD w β hp b u) (h:ic P op T a b = some d):
 Does P w β hp (do eqGuard op T x y v u;binOp op T v u) d hp:=by
 unfold ic at h;split at h
 ·obtain rfl:=Qk hx;obtain rfl:=Qk hy;exact RD hh h
 ·obtain rfl:=jH hx;obtain rfl:=jH hy;exact RE hh h
 ·obtain rfl:=Qk hx;obtain rfl:=Qk hy;split at h
  ·rename_i hu;simp at h;subst h;exact Qh hh (by rw[eqGuard_at_bool];simp[run_eql_bool w T _ _ hu]) (.pv _ _ (.lit _ rfl))
  ·rename_i hu;simp at h;subst h;exact Qh hh (by rw[eqGuard_at_bool];simp[run_neq_bool w T _ _ hu]) (.pv _ _ (.lit _ rfl))
  ·simp at h
 ·rename_i xs ys;split at h
  ·rename_i n l hv hl;split at h
   ·simp at h
   ·rename_i hg;cases hx with
    |agg _ vs hxl hxd =>
      cases hy with
      |agg _ us hyl hyd =>
        have hg':P.eqGuardType P.depth T=false:=by simpa using hg
        have key:∀b,QZ xs ys l=some b->(Op.equalIn 10000 T (.agg vs) (.agg us)).run P w=.ok b w:=fun b hb=>
         (vL (P:=P) (w:=w) (β:=β) (hp:=hp) 8 T l hl 10000 vz).2 n hv xs ys vs us b ⟨hxl,hxd⟩ ⟨hyl,hyd⟩ hb
        split at h
        ·rename_i b hb;simp at h;subst h;refine Qh hh (v:=.bool b) ?_ (.pv _ _ (.lit _ rfl));simp[run_eqGuard_agg w _ T x y vs us hg',run_eql_struct,key b hb]
        ·rename_i b hb;simp at h;subst h;refine Qh hh (v:=.bool (!b)) ?_ (.pv _ _ (.lit _ rfl));simp[run_eqGuard_agg w _ T x y vs us hg',run_neq_struct,key b hb]
        ·simp at h
  ·simp at h
 ·obtain rfl:=Qk hy;cases hx with
  |ptr _ _ b hlt hm=>exact vU hh (fun te j hu _ n=>R5 hu n) h
 ·obtain rfl:=Qk hx;obtain rfl:=Qk hy;exact vU hh (fun te j hu _ n=>R4 hu n) h
 ·split at h
  ·rename_i hc;obtain⟨rfl,rfl⟩:=hc;cases hx with
   |ptr _ _ b hlt hm =>
     cases hy with
     |ptr _ _ b' hlt' hm' =>
       rw[hm] at hm';cases hm';exact vU hh (fun te j hu hj n=>R6 hu hj n) h
  ·simp at h
 ·simp at h
def QF{α β:Type}{x:Option α}{f:α->β}{y:β}(h:x.map f=some y):∃a,x=some a/\f a=y:=by
 cases x with
 |none=>simp at h
 |some a=>exact⟨a,rfl,by simpa using h⟩
def two{ρ:Operand->Value}{args:Array Operand}{a b:DV}{ev:Operand->DV}(h:args.toList.map ev=[a,b]):∃x y,args.map ρ=#[ρ x,ρ y]/\ev x=a/\ev y=b:=by
 obtain⟨l⟩:=args;match l,h with
 |[x,y],h=>simp at h;exact⟨x,y,vv,h.1,h.2⟩
def one{ρ:Operand->Value}{args:Array Operand}{a:DV}{ev:Operand->DV}(h:args.toList.map ev=[a]):∃x,args.map ρ=#[ρ x]/\ev x=a:=by
 obtain⟨l⟩:=args;match l,h with
 |[x],h=>simp at h;exact⟨x,vv,h⟩
def Sr(hh:HeapRel w β hp)(hev:∀x,RelD w β hp (ev x) (ρ x)){args:Array Operand}(h:gz P hp b Ts (args.toList.map ev)=some (d,hp')):iU P w β hp (builtin b Ts ty cs (args.map ρ)) d hp':=by
 unfold gz at h;split at h
 ·rename_i T x hT hx;obtain⟨d',h1,h2⟩:=QF h;simp at h2;obtain⟨rfl,rfl⟩:=h2;obtain⟨a,e1,rfl⟩:=one (ρ:=ρ) hx;have hTs:Ts=#[T]:=by obtain⟨l⟩:=Ts;simpa using hT
  rw[e1,hTs];exact(RU hh (hev a) h1).op
 ·rename_i sT xT s x hT hx;obtain⟨a,c,e1,rfl,rfl⟩:=two (ρ:=ρ) hx;have hTs:Ts=#[sT,xT]:=by obtain⟨l⟩:=Ts;simpa using hT
  rw[e1,hTs];exact(Sl hh (hev a) (hev c) h).op
 ·rename_i dT sT s x hT hx;obtain⟨a,c,e1,rfl,rfl⟩:=two (ρ:=ρ) hx;have hTs:Ts=#[dT,sT]:=by obtain⟨l⟩:=Ts;simpa using hT
  rw[e1,hTs];exact(Si hh (hev a) (hev c) h).op
 ·rename_i x y hx;obtain⟨d',h1,h2⟩:=QF h;simp at h2;obtain⟨rfl,rfl⟩:=h2;obtain⟨a,c,e1,rfl,rfl⟩:=two (ρ:=ρ) hx;rw[e1];exact(RV hh (hev a) (hev c) h1).op
 ·rename_i x y hx;obtain⟨d',h1,h2⟩:=QF h;simp at h2;obtain⟨rfl,rfl⟩:=h2;obtain⟨a,c,e1,rfl,rfl⟩:=two (ρ:=ρ) hx;rw[e1];exact(RW hh (hev a) (hev c) h1).op
 ·rename_i x hx;obtain⟨d',h1,h2⟩:=QF h;simp at h2;obtain⟨rfl,rfl⟩:=h2;obtain⟨a,e1,rfl⟩:=one (ρ:=ρ) hx;rw[e1];exact(R9 hh (hev a) h1).op
 ·rename_i pt it k n hT hx;obtain⟨a,c,e1,ea,ec⟩:=two (ρ:=ρ) hx;have hTs:Ts=#[pt,it]:=by obtain⟨l⟩:=Ts;simpa using hT
  have hn:ρ c=.int .i64 n:=Qk (ec▸hev c);rw[e1,hTs,hn];exact(Sf hh (ea▸hev a) h).op
 ·rename_i pt it hT hx;obtain⟨a,c,e1,ea,ec⟩:=two (ρ:=ρ) hx;have hTs:Ts=#[pt,it]:=by obtain⟨l⟩:=Ts;simpa using hT
  have hn:ρ c=.int .i64 0:=Qk (ec▸hev c);have hq:ρ a=.pointer none:=Qk (ea▸hev a);simp at h;obtain⟨rfl,rfl⟩:=h;rw[e1,hTs,hn,hq];exact(Se hh).op
 ·rename_i T x hT hx;obtain⟨a,e1,rfl⟩:=one (ρ:=ρ) hx;have hTs:Ts=#[T]:=by obtain⟨l⟩:=Ts;simpa using hT
  rw[e1,hTs];exact(Sm hh (hev a) h).op
 ·rename_i T x hT hx;obtain⟨d',h1,h2⟩:=QF h;simp at h2;obtain⟨rfl,rfl⟩:=h2;obtain⟨a,e1,rfl⟩:=one (ρ:=ρ) hx;have hTs:Ts=#[T]:=by obtain⟨l⟩:=Ts;simpa using hT
  rw[e1,hTs];exact(Sg hh (hev a) h1).op
 ·simp at h
def DS (hx:RelD w β hp a v) (h:mQ a = some b):∃ad n c,v = .slice ad n c/\ad.isNone = b:=by
 unfold mQ at h;split at h
 ·obtain rfl:=Qk hx;simp at h;exact⟨_,_,_,rfl,h⟩
 ·rename_i p c xs;simp at h;subst h;cases hx with
  |pv _ _ hp0=>cases hp0 with
    |sl _ a cap sz val h1 h2 h3 h4 h5 h6 =>
      obtain⟨ad,rfl,_⟩:=h5 0 0 (p::c) p rfl rfl;exact⟨_,_,_,rfl,rfl⟩
 ·rename_i p c xs;simp at h;subst h;cases hx with
  |pv _ _ hp0=>cases hp0 with
    |slc _ a sz val h2 h3 h4 h5 h6 =>
      obtain⟨ad,rfl,_⟩:=h5 0 0 (p::c) p rfl rfl;exact⟨_,_,_,rfl,rfl⟩
 ·split at h
  ·simp at h;subst h;cases hx with
   |own0=>rename_i h0;exact absurd h0 vz
   |own=>exact⟨_,_,_,rfl,rfl⟩
  ·simp at h
 ·simp at h
def Ss(hh:HeapRel w β hp)(hx:RelD w β hp a v)(hy:RelD w β hp b u)(hc:∀k,y=.const k->u=k)(h:jL P op T a y b=some d):
 Does P w β hp (do eqGuard op T x y v u;binOp op T v u) d hp:=by
 unfold jL at h;split at h
 ·obtain rfl:=hc _ rfl;split at h
  ·rename_i e hu;unfold oX at h;split at h
   ·rename_i b' hb;simp at h;subst h;obtain⟨ad,n,c,rfl,rfl⟩:=DS hx hb;exact Qh hh (by rw[eqGuard_at_slice];simp[Lib.run_eql_slice_nil w T e ad n c 0 0 hu]) (.pv _ _ (.lit _ rfl))
   ·rename_i b' hb;simp at h;subst h;obtain⟨ad,n,c,rfl,rfl⟩:=DS hx hb;refine Qh hh (v:=.bool (!ad.isNone)) ?_ (.pv _ _ (.lit _ rfl));have hq:=Lib.run_equalIn_slice_nil (P:=P) w 9999 T e ad n c 0 0 hu;rw[eqGuard_at_slice];simp only[binOp];simp[Op.equal,Op.maxDepth,hq]
   ·simp at h
  ·simp at h
 ·exact Sq hh hx hy h
def Su(hh:HeapRel w β hp)(hx:RelD w β hp x v)(h:kZ P hp S T x=some (d,hp')):Does P w β hp (convert S T v) d hp':=by
 unfold kZ at h;split at h
 ·obtain ⟨d',h1,h2⟩:=QF h;simp at h2;obtain⟨rfl,rfl⟩:=h2;exact R8 hh hx h1
 ·exact RT hh hx h
def iV (hh:HeapRel w β hp) (hev:∀x,RelD w β hp (ev x) (ρ x)) (hρ:∀v,ρ (.const v) = v) (h:vop P ev hp o.op = some (d,hp')):
 iU P w β hp (execOp ρ o) d hp':=by
 cases hop:o.op with
 |move x =>
   simp only[vop,hop,JS.injEq,Prod.mk.injEq] at h;obtain⟨rfl,rfl⟩:=h;exact⟨_,w,β,.inl (by simp[execOp,hop]),Evo.refl w β hp,hh,hev x⟩
 |assign x =>
   simp only[vop,hop,JS.injEq,Prod.mk.injEq] at h;obtain⟨rfl,rfl⟩:=h;exact⟨_,w,β,.inl (by simp[execOp,hop]),Evo.refl w β hp,hh,hev x⟩
 |pick c a b =>
   simp only[vop,hop] at h;split at h
   ·rename_i t ht;simp at h;obtain⟨rfl,rfl⟩:=h;have hc:=hev c;rw[ht] at hc;have hc':=Qk hc;refine⟨_,w,β,.inl ?_,Evo.refl w β hp,hh,Sn (t:=t) (v:=ρ a) (u:=ρ b) (fun h=>gy (hev a) h) (fun h=>gy (hev b) (by simp[h]))⟩;simp[execOp,hop,hc',asBool]
   ·simp at h
 |alloc T=>simp only[vop,hop] at h;simp only[execOp,hop];exact(Rl hh h).op
 |box T x=>simp only[vop,hop] at h;simp only[execOp,hop];exact(Ro hh (hev x) h).op
 |build T ps =>
   simp only[vop,hop] at h;obtain⟨d',h1,h2⟩:=QF h;simp at h2;obtain⟨rfl,rfl⟩:=h2;simp only[execOp,hop];exact(Rz hh (rY hev ps).1 (rY hev ps).2 h1).op
 |buildSlice T n ps =>
   simp only[vop,hop] at h;simp only[execOp,hop];exact(RM hh (rY hev ps).1 (rY hev ps).2 h).op
 |load T a =>
   simp only[vop,hop] at h;obtain⟨d',h1,h2⟩:=QF h;simp at h2;obtain⟨rfl,rfl⟩:=h2;simp only[execOp,hop];obtain⟨v,e1,e2⟩:=Di (P:=P) hh (hev a) h1;exact(Qh hh e1 e2).op
 |store T a x =>
   simp only[vop,hop] at h;obtain⟨h',h1,h2⟩:=QF h;simp at h2;obtain⟨rfl,rfl⟩:=h2;obtain⟨w',e1,e2,e3⟩:=Rj (P:=P) hh (hev a) (hev x) h1;exact⟨undef,w',β,.inr ⟨by simp[execOp,hop,e1],rfl⟩,e2,e3,.tup [] #[] rfl vv⟩
 |nilCheck x =>
   simp only[vop,hop] at h;have hx:=hev x;split at h
   ·rename_i k off he;simp at h;obtain⟨rfl,rfl⟩:=h;rw[he] at hx;generalize hv:ρ x=v at hx;cases hx with
    |ptr _ _ b h1 h2=>exact⟨_,w,β,.inl (by simp[execOp,hop,hv]),Evo.refl w β hp,hh,.ptr k off b h1 h2⟩
   ·rename_i cs he;simp at h;obtain⟨rfl,rfl⟩:=h;rw[he] at hx;generalize hv:ρ x=v at hx;cases hx with
    |ip _ ad val h1 h2 h3=>exact⟨_,w,β,.inl (by simp[execOp,hop,hv]),Evo.refl w β hp,hh,.ip cs ad val h1 h2 h3⟩
   ·simp at h
 |binOp op T x y yT =>
   simp only[vop,hop] at h;obtain⟨d',h1,h2⟩:=QF h;simp at h2;obtain⟨rfl,rfl⟩:=h2;simp only[execOp,hop];exact(Ss hh (hev x) (hev y) (fun k e=>by rw[e,hρ]) h1).op
 |unOp op T x =>
   simp only[vop,hop] at h;obtain⟨d',h1,h2⟩:=QF h;simp at h2;obtain⟨rfl,rfl⟩:=h2;simp only[execOp,hop];exact(RZ hh (hev x) h1).op
 |convert S T x=>simp only[vop,hop] at h;simp only[execOp,hop];exact(Su hh (hev x) h).op
 |makeFunc fn first cap =>
   simp only[vop,hop,JS.injEq,Prod.mk.injEq] at h;obtain⟨rfl,rfl⟩:=h;obtain⟨a1,a2⟩:=oY hev first
   obtain⟨b1,b2⟩:=oY hev cap;exact⟨_,w,β,.inl (by simp[execOp,hop,Instr.makeFunc]),Evo.refl w β hp,hh,.fn fn _ _ _ _ a1 b1 a2 b2⟩
 |makeSlice T l c=>simp only[vop,hop] at h;simp only[execOp,hop];exact(RL hh (hev l) (hev c) h).op
 |slice T x lo hi mx =>
   simp only[vop,hop] at h;obtain⟨d',h1,h2⟩:=QF h;simp at h2;obtain⟨rfl,rfl⟩:=h2;simp only[execOp,hop];exact(So hh (hev x) (wi hev lo) (wi hev hi) (wi hev mx) h1).op
 |fieldAddr T x f =>
   simp only[vop,hop] at h;obtain⟨d',h1,h2⟩:=QF h;simp at h2;obtain⟨rfl,rfl⟩:=h2;simp only[execOp,hop];exact(Rp hh (hev x) h1).op
 |field T x f =>
   simp only[vop,hop] at h;obtain⟨d',h1,h2⟩:=QF h;simp at h2;obtain⟨rfl,rfl⟩:=h2;simp only[execOp,hop];exact(Rr hh (hev x) h1).op
 |indexAddr T x i =>
   simp only[vop,hop] at h;obtain⟨d',h1,h2⟩:=QF h;simp at h2;obtain⟨rfl,rfl⟩:=h2;simp only[execOp,hop];exact(Rq hh (hev x) (hev i) h1).op
 |index T x i =>
   simp only[vop,hop] at h;obtain⟨d',h1,h2⟩:=QF h;simp at h2;obtain⟨rfl,rfl⟩:=h2;simp only[execOp,hop];exact(Rt hh (hev x) (hev i) h1).op
 |extract x i =>
   simp only[vop,hop] at h;obtain⟨d',h1,h2⟩:=QF h;simp at h2;obtain⟨rfl,rfl⟩:=h2;simp only[execOp,hop];exact(RX hh (hev x) h1).op
 |call c =>
   simp only[vop,hop] at h;split at h
   ·rename_i b hb;simp only[execOp,hop,resolve,hb];exact Sr hh hev h
   ·simp at h
 |_=>simp[vop,hop] at h
end Go.V
namespace Go.V
def QJ (all:List Oper) (S:St) (o:Oper):Option Bool :=
 match o.guard with
 |none=>some true
 |some (j,want) =>
   match (all[j]?.bind (·.dst)).map (look S.tm) with
   |some (.pv (.lit (.bool b)))=>some (b==want)
   |some (.opt g (.pv (.lit (.bool b))))=>some (g&&(b==want))
   |some (.opt false (.tup _))=>some false
   |some (.tup [])=>some false
   |_=>none
def Qo (ev:Operand->DV) (o:Op):Option (FuncId × List DV) :=
 match o with
 |.call c=>match c.callee with
   |.value f=>match ev f with
     |.fn (.func g) first cap=>some (g,first++c.args.toList.map ev++cap)
     |_=>none
   |_=>none
 |_=>none
def aw(g:Option (Nat×Bool))(G:Bool)(d:DV):DV:=
 match g with
 |none=>d
 |some _=>.opt G d
def St.at(S:St)(hp:Qb):St:={ S with hp:=hp }
def an (P:Program) (all:List Oper):List Oper->(St->Prop)->St->Prop
 |[],K,S=>K S
 |o :: r,K,S =>
   S.fits o.dst=true /\
   match QJ all S o with
   |none=>False
   |some false=>an P all r K (S.put o.dst (.tup []))
   |some true =>
     match Qo (fun x=>Qn true (S.ev x)) o.op with
     |some (g,args)=>VCalls P g args S.hp fun d hp'=>an P all r K ((S.at hp').put o.dst (aw o.guard true d))
     |none =>
       match vop P (fun x=>Qn true (S.ev x)) S.hp o.op with
       |some (d,hp')=>an P all r K ((S.at hp').put o.dst (aw o.guard true d))
       |none=>False
def QU(h:RelD w β hp d v):RelD w β hp (aw g true d) v:=by
 cases g with
 |none=>exact h
 |some _=>exact .opt true d v (fun _=>h) vv
def du(O:Org)(Q:Exit->St->Prop):Exit->Act->World->Prop:=fun e a w=>∃β S,Sim O β S a w/\Q e S
def Sim.skip{O:Org}{β:Map}{S:St}{a:Act}{w:World}{dst:Option Tmp}{d:DV}(h:Sim O β S a w)(hd:RelD w β S.hp d undef)(hf:S.fits dst=true):Sim O β (S.put dst d) (a.put dst undef) w:=
 h.step (dst:=dst) (Evo.refl w β S.hp) h.heap hd hf
def QS (h:Sim O β S a w) (hg:QJ ops.toList S o = some G):Region.wanted o (yielded ops a.tmps) = G:=by
 unfold QJ at hg;unfold Region.wanted;cases hgd:o.guard with
 |none=>simp[hgd] at hg;simp[<-hg]
 |some jw =>
   obtain⟨j,want⟩:=jw;simp only[hgd] at hg |-;cases hb:(ops.toList[j]?.bind (·.dst)) with
   |none=>rw[hb] at hg;simp at hg
   |some t =>
     have hb':(ops[j]?).bind (·.dst)=some t:=by simpa using hb
     have hrel:=h.tm t;simp only[hb,Kg] at hg
     have hy:∀b,a.tmps.getD t undef=.bool b->yielded ops a.tmps j=some b:=by
      intro b hb2;unfold yielded;rw[hb'];simp only[Ka];by_cases hlt:t<a.tmps.size
      ·simp [hlt] at hb2;simp[hlt,hb2]
      ·simp[hlt,undef] at hb2
     have hu:a.tmps.getD t undef=undef->yielded ops a.tmps j=none:=by
      intro hb2;unfold yielded;rw[hb'];simp only[Ka];by_cases hlt:t<a.tmps.size
      ·simp [hlt] at hb2;simp[hlt,hb2,undef]
      ·simp[hlt]
     generalize look S.tm t=d at hrel hg;split at hg
     ·rename_i b he;simp at he;subst he;simp at hg;rw[hy b (Qk hrel),<-hg];simp
     ·rename_i g b he;simp at he;subst he;simp at hg;cases hrel with
      |opt _ _ _ h1 h2 =>
        cases hgv:g with
        |true=>rw[hy b (Qk (h1 hgv)),<-hg];simp[hgv]
        |false=>rw[hu (h2 hgv),<-hg];simp[hgv]
     ·rename_i ds he;simp at he;subst he;simp at hg;subst hg;cases hrel with
      |opt _ _ _ h1 h2=>rw[hu (h2 rfl)];simp
     ·rename_i he;simp at he;subst he;simp at hg;subst hg;generalize hv:a.tmps.getD t undef=v at hrel;cases hrel with
      |tup _ vs hl _ =>
        have:vs=#[]:=Jj (by simpa using hl.symm);subst this;rw[hu hv];simp
     ·simp at hg
def wm(h1:P.funcs[g]?=some fn)(h2:(fn.name == "runtime.NumGoroutine")=false)(h3:fn.body.isNone=false)(args:Array Value)(w:World):(callFunc g args).run P w=.ok (.enter g args) w:=by
 have h2':¬ fn.name = "runtime.NumGoroutine" := by simpa using h2
 have h3':¬fn.body=none:=by intro h;rw[h] at h3;simp at h3
 simp[callFunc,h1,h2',h3']
def mR(h:RelL w β hp a u)(g:RelL w β hp b v):RelL w β hp (a++b) (u++v):=by
 refine⟨by simp[h.1,g.1],fun i d hi=>?_⟩;rw[Ji] at hi;split at hi
 ·rename_i hlt
  have e:(u++v).getD i undef=u.getD i undef:=by
   simp only[Jb];rw[JM (by rw[<-h.1];exact hlt)]
  rw[e];exact h.2 i d hi
 ·rename_i hlt
  have e:(u++v).getD i undef=v.getD (i-a.length) undef:=by
   simp only[Jb];rw[Array.getElem?_append_right (by rw[<-h.1];omega),h.1]
  rw[e];exact g.2 _ d hi
def wo {a:Act} {o:Oper} (hev:∀x,RelD w β hp (ev x) (a.eval x)) (hc:Qo ev o.op = some (g,args)) (hh:HeapRel w β hp) (hcalls:VCalls P g args hp R) (hn:∀v r h' β' w',Evo w β hp w' β' h'->HeapRel w' β' h'->RelD w' β' h' r v->R r h'->next (a.put o.dst v) w'):o.wp P a w next Q:=by
 unfold Qo at hc;split at hc
 ·rename_i c hop;split at hc
  ·rename_i f hcal;split at hc
   ·rename_i g' first cap hfn
    simp at hc;obtain⟨rfl,rfl⟩:=hc;have hf:=hev f;rw[hfn] at hf;generalize hv:a.eval f=fv at hf;cases hf with
    |fn _ _ _ vs us l1 l2 r1 r2 =>
      have hrel:RelL w β hp (first++c.args.toList.map ev++cap) (vs++c.args.map a.eval++us):=mR (mR ⟨l1,r1⟩ (oY hev c.args)) ⟨l2,r2⟩;rcases hcalls.run w β (vs++c.args.map a.eval++us) hh (by simpa using hrel) with⟨fn,h1,h2,h3,h4⟩|⟨fn,v,w',h1,h2,h3,v',r,h',β',e,k1,k2,k3,k4⟩
      ·have hrun:(execOp a.eval o).run P w = .ok (.enter g' (vs ++ c.args.map a.eval ++ us)) w:=by
        simp[execOp,hop,resolve,hcal,hv,Deferred.ofValue,invoke,wm h1 h2 h3]
       unfold Oper.wp;rw[hrun,Oper.upon_enter];refine h4.mono ?_;rintro e w' ⟨v,r,h',β',rfl,k1,k2,k3,k4⟩;exact hn v r h' β' w' k1 k2 k3 k4
      ·have hrun:(execOp a.eval o).run P w = .ok (.value v) w':=by
        rw[Array.append_assoc] at h3;simp[execOp,hop,resolve,hcal,hv,Deferred.ofValue,invoke,h3]
       cases e;unfold Oper.wp;rw[hrun];exact hn v r h' β' w' k1 k2 k3 k4
   ·simp at hc
  ·simp at hc
 ·simp at hc
def oZ(h:iU P w β hp (execOp a.eval o) d hp')(hn:∀v w' β',Evo w β hp w' β' hp'->HeapRel w' β' hp'->RelD w' β' hp' d v->next (a.put o.dst v) w'):o.wp P a w next Q:=by
 obtain⟨v,w',β',h1,h2,h3,h4⟩:=h;unfold Oper.wp;rcases h1 with h1|⟨h1,rfl⟩
 ·rw[h1];exact hn v w' β' h2 h3 h4
 ·rw[h1];exact hn undef w' β' h2 h3 h4
def DT (hK:∀β S a w,Sim O β S a w->K S->Q .normal a w):∀(rest:List Oper) (pre:List Oper),ops.toList = pre ++ rest->∀(β:Map) (S:St) (a:Act) (w:World),Sim O β S a w->an P ops.toList rest K S ->
 wpOps P ops Q (Km pre.length rest.length) a w
 |[],pre,_,β,S,a,w,hs,h=>by
   simp only[JW,List.range'_zero,wpOps];exact hK β S a w hs h
 |o :: r,pre,hops,β,S,a,w,hs,h=>by
   have hidx:ops[pre.length]?=some o:=by
    have:ops.toList[pre.length]?=some o:=by rw[hops];simp
    simpa using this
   have ih:=fun β S a w=>DT (P:=P) (O:=O) hK r (pre++[o]) (by rw[hops];simp) β S a w;simp only[Jy,JX] at ih;simp only[Js,List.range'_succ,wpOps,hidx];unfold an at h;obtain⟨hf,h⟩:=h;split at h
   ·exact h.elim
   ·rename_i hg;rw[QS (ops:=ops) hs hg,if_neg vv];exact ih β _ _ _ (hs.skip (.tup [] #[] rfl vv) hf) h
   ·rename_i hg;rw[QS (ops:=ops) hs hg,if_pos rfl];have hev:∀x,RelD w β S.hp (Qn true (S.ev x)) (a.eval x):=fun x=>gy (hs.ev x) rfl;split at h
    ·rename_i g args hc;refine .inl (wo hev hc hs.heap h (fun v r h' β' w' k1 k2 k3 k4=>?_));exact ih β' _ _ _ (hs.step k1 k2 (QU k3) hf) k4
    ·split at h
     ·rename_i d hp' hv;refine .inl (oZ (iV hs.heap hev (fun _=>rfl) hv) (fun v w' β' k1 k2 k3=>?_));exact ih β' _ _ _ (hs.step k1 k2 (QU k3) hf) h
     ·exact h.elim
def VWp(P:Program)(c:Code)(Q:Exit->St->Prop)(S:St):Prop:=∀(O:Org) (β:Map) (a:Act) (w:World),Sim O β S a w->c.wp P (du O Q) a w
def rZ(t:Bool)(A B:Prop):Prop:=(t=true->A)/\(t=false->B)
def fe(Q:Exit->St->Prop)(K:St->Prop):Exit->St->Prop
 |.normal,S=>K S
 |e,S=>Q e S
def eE(id:Nat)(Q:Exit->St->Prop):Exit->St->Prop
 |.exit id',S=>if id'=id then Q .normal S else Q (.exit id') S
 |e,S=>Q e S
def VLoop(P:Program)(c:Code)(Q:Exit->St->Prop)(S:St):Prop:=VWp P (.loop c) Q S
def VDraw(P:Program)(id:Nat)(ops:Array Oper)(Q:Exit->St->Prop)(S:St):Prop:=VWp P (.region id ops true) Q S
def QH (P:Program):Code->(Exit->St->Prop)->St->Prop
 |.skip,Q,S=>Q .normal S
 |.region id ops draw,Q,S=>if draw=true then VDraw P id ops Q S else an P ops.toList ops.toList (Q .normal) S
 |.seq a b,Q,S=>QH P a (fe Q (QH P b Q)) S
 |.cond c a b,Q,S=>match S.ev c with
   |.pv (.lit (.bool t))=>rZ t (QH P a Q S) (QH P b Q S)
   |_=>False
 |.block id c,Q,S=>QH P c (eE id Q) S
 |.loop c,Q,S=>VLoop P c Q S
 |.exit id,Q,S=>Q (.exit id) S
 |.ret,Q,S=>Q .ret S
 |c,Q,S=>VWp P c Q S
def Qx:∀(c:Code) (Q:Exit->St->Prop) (S:St),QH P c Q S->VWp P c Q S
 |.skip,Q,S,h=>fun O β a w hs=>wp_skip ⟨β,S,hs,h⟩
 |.region id ops draw,Q,S,h=>fun O β a w hs=>by
   unfold QH at h;split at h
   ·rename_i hd;subst hd;exact h O β a w hs
   ·rename_i hd;have hd':draw=false:=by simpa using hd
    subst hd';have:=DT (P:=P) (O:=O) (ops:=ops) (Q:=du O Q) (K:=Q .normal) (fun β S a w hs hk=>⟨β,S,hs,hk⟩) ops.toList [] rfl β S a w hs h;refine wp_region ?_;simpa [List.range_eq_range'] using this
 |.seq x y,Q,S,h=>fun O β a w hs=>by
   unfold QH at h;have h1:=Qx x _ S h O β a w hs;refine wp_seq (wp_mono h1 fun e a' w' hq=>?_);obtain⟨β',S',hs',hq⟩:=hq;cases e with
   |normal=>exact Qx y Q S' hq O β' a' w' hs'
   |_=>exact⟨β',S',hs',hq⟩
 |.cond c x y,Q,S,h=>fun O β a w hs=>by
   unfold QH at h;split at h
   ·rename_i t ht;have hc:=hs.ev c;rw[ht] at hc;refine wp_cond_split (Qk hc) (fun e=>?_) (fun e=>?_)
    ·exact Qx x Q S (h.1 e) O β a w hs
    ·exact Qx y Q S (h.2 e) O β a w hs
   ·exact h.elim
 |.block id c,Q,S,h=>fun O β a w hs=>by
   unfold QH at h;have h1:=Qx c _ S h O β a w hs;refine wp_block (wp_mono h1 fun e a' w' hq=>?_);obtain⟨β',S',hs',hq⟩:=hq;cases e with
   |exit id' =>
     simp only[eE] at hq;simp only[Exit.inBlock];split
     ·rename_i he;rw[if_pos he] at hq;exact⟨β',S',hs',hq⟩
     ·rename_i he;rw[if_neg he] at hq;exact⟨β',S',hs',hq⟩
   |_=>exact⟨β',S',hs',hq⟩
 |.loop c,Q,S,h=>h
 |.exit id,Q,S,h=>fun O β a w hs=>wp_exit ⟨β,S,hs,h⟩
 |.ret,Q,S,h=>fun O β a w hs=>wp_ret ⟨β,S,hs,h⟩
 |.rangeFunc ..,Q,S,h=>h
 |.scope _,Q,S,h=>h
 |.label _,Q,S,h=>h
 |.goto _,Q,S,h=>h
 |.refuse _,Q,S,h=>h
end Go.V
