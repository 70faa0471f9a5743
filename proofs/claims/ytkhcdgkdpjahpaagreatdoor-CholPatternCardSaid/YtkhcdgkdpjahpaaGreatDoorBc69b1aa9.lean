/-
  Parts of the proof: Fw19, Fw20, Fw21: the framework (Fw), pure forms (Dn), plain laws (Pl, Th), calls of functions (Ok).
-/
import Derived.Test.YtkhcdgkdpjahpaaGreatDoorBfe675672

set_option linter.all false
noncomputable section
namespace Go.lP
def xR:du->du->Bool
 |.cD,_=>true
 |.ey,.ey=>true
 |.ey,.cD=>false
def CV:du->Bool
 |.ey=>true
 |.cD=>false
def dx:aq->aq->Bool
 |.int k,.int cN=>if k=cN then true else false
 |.bool,.bool|.str,.str|.nil,.nil=>true
 |.bJ m t,.bJ iz u=>xR m iz&&dx t u
 |.osl t,.bJ m u=>CV m&&dx t u
 |.ptr m t,.ptr iz u=>xR m iz&&dx t u
 |.st t,.st u=>dx t u
 |.pr a b,.pr c d=>dx a c&&dx b d
 |.mp t,.ee m u=>CV m&&dx t u
 |.ee m t,.ee iz u=>xR m iz&&dx t u
 |_,_=>false
theorem xR.ok {I B B':Nat->Prop} (eP:∀b,B b->B' b) {m iz:du} (h:xR m iz=true) {b:Nat} (aa:bK I B m b):bK I B' iz b:=by
 cases m<;>cases iz
 ·exact aa
 ·exact .inl aa
 ·cases h
 ·exact aa.imp id (eP b)
theorem CV.ok {m:du} (h:CV m=true):m=.ey:=by cases m;cases h;rfl
theorem dx.den:∀{τ υ:aq},dx τ υ=true->τ.den=υ.den:=by
 intro τ
 induction τ with
 |bJ m t aT=>
  intro υ h;cases υ<;>simp only[dx] at h<;>try (cases h;done)
  simp only[bM] at h;exact congrArg List (aT h.2)
 |ptr m t aT=>
  intro υ h;cases υ<;>simp only[dx] at h<;>try (cases h;done)
  simp only[bM] at h;exact congrArg Option (aT h.2)
 |osl t aT=>
  intro υ h;cases υ<;>simp only[dx] at h<;>try (cases h;done)
  simp only[bM] at h;exact congrArg List (aT h.2)
 |st t aT=>
  intro υ h;cases υ with
  |st u=>exact aT (υ:=u) (by simpa only[dx] using h)
  |_=>simp only[dx] at h;cases h
 |pr a b vi vj=>
  intro υ h;cases υ<;>simp only[dx] at h<;>try (cases h;done)
  simp only[bM] at h;show(a.den×b.den)=_;rw[vi h.1,vj h.2]
 |int k=>intro υ h;cases υ<;>simp only[dx] at h<;>first|rfl|cases h
 |bool=>intro υ h;cases υ<;>simp only[dx] at h<;>first|rfl|cases h
 |str=>intro υ h;cases υ<;>simp only[dx] at h<;>first|rfl|cases h
 |nil=>intro υ h;cases υ<;>simp only[dx] at h<;>first|rfl|cases h
 |optr t _=>intro υ h;cases υ<;>simp only[dx] at h<;>cases h
 |dw=>intro υ h;cases υ<;>simp only[dx] at h<;>cases h
 |mp t aT=>
  intro υ h;cases υ<;>simp only[dx] at h<;>try (cases h;done)
  simp only[bM] at h;exact congrArg (fun α=>Option (List (Int×α)×Nat)) (aT h.2)
 |ee m t aT=>
  intro υ h;cases υ<;>simp only[dx] at h<;>try (cases h;done)
  simp only[bM] at h;exact congrArg (fun α=>Option (List (Int×α)×Nat)) (aT h.2)
theorem dx.size:∀{τ υ:aq},dx τ υ=true->τ.size=υ.size:=by
 intro τ
 induction τ with
 |st t aT=>intro υ h;cases υ<;>simp only[dx] at h<;>first|(simp only[aq.size];exact aT h)|cases h
 |pr a b vi vj=>
  intro υ h;cases υ<;>simp only[dx] at h<;>try (cases h;done)
  simp only[bM] at h;simp only[aq.size];rw[vi h.1,vj h.2]
 |_=>intro υ h;cases υ<;>simp only[dx] at h<;>first|rfl|cases h
theorem WT {α aR:Type} (e:α=aR) {x:Option (List (Int×α)×Nat)} {y:Option (List (Int×aR)×Nat)} (h:HEq x y):(x=none/\y=none)\/∃l c l',x=some (l,c)/\y=some (l',c)/\∀L:List (Int×Nat×α),lf L l c->∃hW:List (Int×Nat×aR),lf hW l' c/\hW.length=L.length/\∀(i:Nat) (gH:Int×Nat×aR),hW[i]?=some gH->∃q:Int×Nat×α,L[i]?=some q/\q.1=gH.1/\q.2.1=gH.2.1/\HEq q.2.2 gH.2.2:=by
 subst e;cases h;cases x with
 |none=>exact .inl ⟨rfl,rfl⟩
 |some a=>exact .inr ⟨a.1,a.2,a.1,rfl,rfl,fun L eQ=>⟨L,eQ,rfl,fun i q ai=>⟨q,ai,rfl,rfl,HEq.rfl⟩⟩⟩
theorem dx.cH {τ υ:aq} (h:dx τ υ=true) (cs:List Value):cH υ cs=lP.cH τ cs:=by cases τ<;>cases υ<;>simp only[dx] at h<;>first|rfl|cases h
theorem WS {α aR:Type} (e:α=aR) {l:List α} {l':List aR} (h:HEq l l'):l'.length=l.length/\∀(i:Nat) (b:aR),l'[i]?=some b->∃a,l[i]?=some a/\HEq a b:=by subst e;cases h;exact⟨rfl,fun i b aa=>⟨b,aa,HEq.rfl⟩⟩
theorem ak3 {α aR:Type} (e:α=aR) {l:Option α} {l':Option aR} (h:HEq l l'):(l=none/\l'=none)\/∃a b,l=some a/\l'=some b/\HEq a b:=by
 subst e;cases h;cases l with
 |none=>exact .inl ⟨rfl,rfl⟩
 |some a=>exact .inr ⟨a,a,rfl,rfl,HEq.rfl⟩
theorem ak4 {α aR rc acj:Type} (e:α=rc) (dy:aR=acj) {x:α×aR} {y:rc×acj} (h:HEq x y):HEq x.1 y.1/\HEq x.2 y.2:=by subst e;subst dy;cases h;exact⟨HEq.rfl,HEq.rfl⟩
theorem bi.ey {I B B':Nat->Prop} {w:World} (eP:∀b,B b->B' b):∀{τ υ:aq} {cs:List Value} {x:τ.den} {y:υ.den} {f:List Nat},dx τ υ=true->HEq x y->bi (bK I B) w τ cs x f->(∀b∈f,B' b)->bi (bK I B') w υ cs y []:=by
 intro τ
 induction τ with
 |int k=>
  intro υ cs x y f h aE hr _;cases υ<;>simp only[dx] at h<;>try (cases h;done)
  split at h
  ·rename_i e;subst e;cases aE;exact⟨rfl,hr.2⟩
  ·cases h
 |bool=>intro υ cs x y f h aE hr _;cases υ<;>simp only[dx] at h<;>first|(cases h;done)|(cases aE;exact⟨rfl,hr.2⟩)
 |str=>intro υ cs x y f h aE hr _;cases υ<;>simp only[dx] at h<;>first|(cases h;done)|(cases aE;exact⟨rfl,hr.2⟩)
 |nil=>intro υ cs x y f h aE hr _;cases υ<;>simp only[dx] at h<;>first|(cases h;done)|(cases aE;exact⟨rfl,hr.2⟩)
 |optr t _=>intro υ cs x y f h;cases υ<;>simp only[dx] at h<;>cases h
 |dw=>intro υ cs x y f h;cases υ<;>simp only[dx] at h<;>cases h
 |mp t aT=>
  intro υ cs x y f h aE hr aF;cases υ<;>simp only[dx] at h<;>try (cases h;done)
  simp only[bM] at h;obtain rfl:=CV.ok h.1;rcases WT (dx.den h.2) aE with⟨rfl,rfl⟩|⟨l,c,l',rfl,rfl,ab⟩
  ·exact⟨rfl,hr.2⟩
  ·obtain⟨b,bG,L,aK,aL,eQ,a8,bH,dp⟩:=hr;obtain⟨hW,Pg,ah,ab⟩:=ab L eQ;refine⟨b,bG,hW,aK,rfl,Pg,.inr (aF b (by rw[aL];simp)),a8,by rw[ah];exact bH,fun i gH fq=>?_⟩;obtain⟨q,J,R,ae,aI⟩:=ab i gH fq;obtain⟨ds,cJ,cz,cX⟩:=dp i q J;exact⟨ds,by rw[<-dx.size h.2];exact cJ,by rw[cz,dx.cH h.2,R,ae],aT h.2 aI cX (by simp)⟩
 |ee m t aT=>
  intro υ cs x y f h aE hr aF;cases υ<;>simp only[dx] at h<;>try (cases h;done)
  simp only[bM] at h;rcases WT (dx.den h.2) aE with⟨rfl,rfl⟩|⟨l,c,l',rfl,rfl,ab⟩
  ·exact⟨rfl,hr.2⟩
  ·obtain⟨b,bG,L,aK,aL,eQ,aa,a8,bH,dp⟩:=hr;obtain⟨hW,Pg,ah,ab⟩:=ab L eQ;refine⟨b,bG,hW,aK,rfl,Pg,xR.ok eP h.1 aa,a8,by rw[ah];exact bH,fun i gH fq=>?_⟩;obtain⟨q,J,R,ae,aI⟩:=ab i gH fq;obtain⟨ds,cJ,cz,cX⟩:=dp i q J;exact⟨ds,by rw[<-dx.size h.2];exact cJ,by rw[cz,dx.cH h.2,R,ae],aT h.2 aI cX (by simp)⟩
 |st t aT=>
  intro υ cs x y f h aE hr aF;cases υ with
  |st u=>exact aT (υ:=u) (x:=x) (y:=y) (by simpa only[dx] using h) aE hr aF
  |_=>simp only[dx] at h;cases h
 |pr a b vi vj=>
  intro υ cs x y f h aE hr aF;cases υ<;>simp only[dx] at h<;>try (cases h;done)
  rename_i c d;simp only[bM] at h;obtain⟨f1,cC,rfl,J,R⟩:=hr;obtain⟨aC,aV⟩:=ak4 (dx.den h.1) (dx.den h.2) aE;have hs:=dx.size h.1;exact⟨[],[],rfl,by rw[<-hs];exact vi h.1 aC J (fun b aa=>aF b (by simp[aa])),by rw[<-hs];exact vj h.2 aV R (fun b aa=>aF b (by simp[aa]))⟩
 |bJ m t aT=>
  intro υ cs x y f h aE hr aF;obtain⟨rfl,ad,cap,rfl,aK,aL,a8⟩:=hr;cases υ<;>simp only[dx] at h<;>try (cases h;done)
  rename_i iz u;simp only[bM] at h;obtain⟨ah,ab⟩:=WS (dx.den h.2) aE;refine⟨rfl,ad,cap,by rw[ah],by rw[ah];exact aK,aL,?_⟩;rcases a8 with rfl|⟨b,o,rfl,n4,mQ⟩
  ·left;exact pb (by rw[ah];rfl)
  ·right;refine⟨b,o,rfl,xR.ok eP h.1 n4,fun i z aZ=>?_⟩;obtain⟨hI,J,R⟩:=ab i z aZ;obtain⟨ds,cJ,cz,cX⟩:=mQ i hI J;rw[<-dx.size h.2];exact⟨ds,cJ,cz,aT h.2 R cX (by simp)⟩
 |osl t aT=>
  intro υ cs x y f h aE hr aF;cases υ<;>simp only[dx] at h<;>try (cases h;done)
  rename_i iz u;simp only[bM] at h;obtain rfl:=CV.ok h.1;obtain⟨ad,cap,rfl,hr⟩:=hr;obtain⟨ah,ab⟩:=WS (dx.den h.2) aE;rcases hr with⟨rfl,rfl,rfl,rfl⟩|⟨b,o,dI,rfl,rfl,aK,aL,a8,bH⟩
  ·obtain rfl:y=[]:=pb (by rw[ah];rfl);exact⟨rfl,none,0,rfl,bS _,fun _=>rfl,.inl rfl⟩
  ·refine⟨rfl,some ⟨b,o,none⟩,cap,by rw[ah],by rw[ah];exact aL,(fun h=>by cases h),.inr ⟨b,o,rfl,.inr (aF b (by simp)),fun i z aZ=>?_⟩⟩;obtain⟨hI,J,R⟩:=ab i z aZ;have hi:i<x.length:=(e9.1 J).1;obtain⟨ds,cJ,cz,cX⟩:=bH i hI (dI[i]'(by omega)) J (by simp)
   rw[<-dx.size h.2];exact⟨ds,cJ,cz,aT h.2 R cX (fun c hc=>aF c (f6 _ (kN.2 ⟨_,dt (by omega),hc⟩)))⟩
 |ptr m t aT=>
  intro υ cs x y f h aE hr aF;obtain⟨rfl,hr⟩:=hr;cases υ<;>simp only[dx] at h<;>try (cases h;done)
  rename_i iz u;simp only[bM] at h;refine⟨rfl,?_⟩;rcases ak3 (dx.den h.2) aE with⟨rfl,rfl⟩|⟨a,b,rfl,rfl,n6⟩
  ·exact hr
  ·obtain⟨NM,o,ds,bX,bn,a9,bD,bW⟩:=hr;exact⟨NM,o,ds,bX,xR.ok eP h.1 bn,by rw[<-dx.size h.2];exact a9,bD,aT h.2 n6 bW (by simp)⟩
inductive qj:(τ:aq)->τ.den->(υ:aq)->υ.den->Prop
 |same {τ υ:aq} {x:τ.den} {y:υ.den} (h:dx τ υ=true) (aE:HEq x y):qj τ x υ y
 |ptr {t u:aq} {x:t.den} {y:u.den} (h:dx t u=true) (aE:HEq x y):qj (.optr t) x (.ptr .ey u) (some y)
theorem qj.rep {I B B':Nat->Prop} {w:World} (eP:∀b,B b->B' b) {τ υ:aq} {cs:List Value} {x:τ.den} {y:υ.den} {f:List Nat} (h:qj τ x υ y) (hr:bi (bK I B) w τ cs x f) (aF:∀b∈f,B' b):bi (bK I B') w υ cs y []:=by
 cases h with
 |same h aE=>exact hr.ey eP h aE aF
 |ptr h aE=>
  obtain⟨b,o,hM,ds,rfl,rfl,aK,aL,a8,bH⟩:=hr;exact⟨rfl,b,o,ds,rfl,.inr (aF b (by simp)),by rw[<-dx.size h];exact aK,aL,bH.ey eP h aE (fun c hc=>aF c (by simp[hc]))⟩
theorem qj.st {τ υ:aq} {x:τ.den} {y:υ.den} (h:qj τ x υ y) (cs:List Value):cH τ cs=cH υ cs:=by
 cases h with
 |same h _=>cases τ<;>cases υ<;>first|rfl|(simp only[dx] at h;cases h;done)
 |ptr h _=>rfl
section
def nV {α aR rc:Type} (b8:α->aR->rc->Prop):List α->List aR->List rc->Prop
 |[],[],[]=>True
 |a::as,b::bs,c::cs=>b8 a b c/\nV b8 as bs cs
 |_,_,_=>False
def i4 {α aR:Type} (b8:α->aR->Prop):List α->List aR->Prop
 |[],[]=>True
 |a::as,b::bs=>b8 a b/\i4 b8 as bs
 |_,_=>False
theorem T4 {α aR:Type} {b8:α->aR->Prop}:∀{as:List α} {bs:List aR},i4 b8 as bs->bs.length=as.length
 |[],[],_=>rfl
 |[],_::_,h=>h.elim
 |_::_,[],h=>h.elim
 |a::as,b::bs,h=>by have:=T4 h.2;simp[this]
theorem NA {α aR:Type} {b8:α->aR->Prop}:∀{as:List α} {bs:List aR} {Ux:List α} {UQ:List aR},i4 b8 as bs->i4 b8 Ux UQ->i4 b8 (as++Ux) (bs++UQ)
 |[],[],_,_,_,h=>h
 |[],_::_,_,_,h,_=>h.elim
 |_::_,[],_,_,h,_=>h.elim
 |a::as,b::bs,_,_,h,a2=>⟨h.1,NA h.2 a2⟩
theorem IE {α aR:Type} {b8:α->aR->Prop}:∀{as:List α} {bs:List aR},as.length=bs.length->(∀(i:Nat) a b,as[i]?=some a->bs[i]?=some b->b8 a b)->i4 b8 as bs
 |[],[],_,_=>trivial
 |[],_::_,h,_=>by cases h
 |_::_,[],h,_=>by cases h
 |a::as,b::bs,h,ax=>⟨ax 0 a b rfl rfl,IE (by simpa using h) (fun i x y J R=>ax (i+1) x y (by simpa using J) (by simpa using R))⟩
theorem NB {α aR rc:Type} {b8:aR->rc->Prop} {f:α->aR} {g:α->rc} (h:∀x,b8 (f x) (g x)):∀l:List α,i4 b8 (l.map f) (l.map g)
 |[]=>trivial
 |x::l=>⟨h x,NB h l⟩
inductive hg where
 |v (t:a1)
 |m (t:a1) (y:t.1.den)
 |o (t:a1)
 |c (f:Nat) (ca:List a1)
 |n
 |s (f:Nat) (l:List Nat)
 |w (σ:aq) (xs:List σ.den) (lo hi:Nat) (aS:List σ.den)
def D0 (I B:Nat->Prop) (w:World) (t:a1) (v:Value):Prop:=∃cs,v=cH t.1 cs/\bi (bK I B) w t.1 cs t.2 []
def DT (I B:Nat->Prop) (w:World):hg->Value->List Nat->Prop
 |.v t,v,f=>f=[]/\∃cs,v=cH t.1 cs/\bi (bK I B) w t.1 cs t.2 []
 |.m t _,v,f=>∃cs,v=cH t.1 cs/\bi (bK I B) w t.1 cs t.2 f
 |.o t,v,f=>∃cs,v=cH t.1 cs/\bi (bK I B) w t.1 cs t.2 f
 |.n,v,f=>f=[]/\v=.slice none 0 0
 |.s _ _,_,f=>f=[]
 |.w σ xs lo hi _,v,f=>∃b o cap,v=.slice (some ⟨b,o+lo*σ.size,none⟩) (hi-lo) (cap-lo)/\(lo<hi/\hi<=xs.length/\xs.length<=cap)/\bi (bK I B) w (.osl σ) [.slice (some ⟨b,o,none⟩) xs.length cap] xs f
 |.c n ca,v,f=>f=[]/\∃vs:List Value,v=.func (.func n) #[] vs.toArray/\i4 (D0 I B w) ca vs
def sr:Nat->List hg->Option axC
 |_,[]=>none
 |k,.s f l::_=>some (k,f,l)
 |k,_::r=>sr (k+1) r
def TO (w:World) (vs:List Value) (fs:List (List Nat)):Option axC->Prop
 |none=>True
 |some (k,f,l)=>k<vs.length/\(∀j∈l,j<vs.length)/\∃b o gh,vs.getD k undef=.pointer (some ⟨b,o,none⟩)/\b<w.heap.size/\b∉fs.flatten/\w.cell? ⟨b,o,none⟩=some (.func (.func f) #[] gh)/\gh.toList=l.map fun j=>vs.getD j undef
def DU (I B:Nat->Prop) (w:World):hg->Value->List Nat->Prop
 |.m t y,v,g=>∃cs,v=cH t.1 cs/\bi (bK I B) w t.1 cs y g
 |.w σ xs lo hi aS,v,g=>∃b o cap,v=.slice (some ⟨b,o+lo*σ.size,none⟩) (hi-lo) (cap-lo)/\lo<cap/\bi (bK I B) w (.osl σ) [.slice (some ⟨b,o,none⟩) xs.length cap] aS g
 |_,_,g=>g=[]
def Is (I:Nat->Prop) (w:World) (t:a1) (v:Value) (h:List Nat):Prop:=∃cs,v=cH t.1 cs/\bi (bK I (fun _=>False)) w t.1 cs t.2 h
def tP:List Value->Value
 |[v]=>v
 |vs=>.tuple vs.toArray
structure TM (I B:Nat->Prop) (w:World) (fs:List (List Nat)) (args:List hg) (vs:List Value) (res:List a1) (I':Nat->Prop) (gs hs:List (List Nat)) (eV:List Value) (w':World):Prop where
 args:nV (DU I' B w') args vs gs
 res:nV (Is I' w') res eV hs
 Dh:(gs.flatten++hs.flatten).Nodup
 UI:∀b∈gs.flatten++hs.flatten,¬I' b/\¬B b/\b<w'.heap.size/\(w.heap.size<=b\/b∈fs.flatten)
 i:∀b,I b->I' b
 i2:∀b,I' b->I b\/(b<w'.heap.size/\(w.heap.size<=b\/b∈fs.flatten))
 size:w.heap.size<=w'.heap.size
 os:w'.os=w.os
 tape:w'.tape=w.tape
 output:w'.output=w.output
 evo:∀b,b<w.heap.size->lO w w' b
 heap:∀b,b<w.heap.size->b∉fs.flatten->w'.heap[b]?=w.heap[b]?
def mu (E:eI) (I:Nat->Prop) (w:World):Prop:=∀g∈E.glob,bi (bK I fun _=>False) w (.bJ .cD (.int g.k)) [.slice (some ⟨g.b,0,none⟩) g.xs.length g.xs.length] g.xs []
theorem mu.mono {E:eI} {I I':Nat->Prop} {w w':World} (h:mu E I w) (hi:∀b,I b->I' b) (hw:∀b,I b->w'.heap[b]?=w.heap[b]?):mu E I' w':=fun g aD=>
 (h g aD).mono (fun m b ao=>by
  have aa:I b:=(by cases m;exact ao;exact ao.elim id False.elim);exact⟨by cases m;exact hi b aa;exact .inl (hi b aa),c3.of_heap (hw b aa)⟩) (fun b aa=>by cases aa)
def wv (E:eI) (f:FuncId) (args:List hg) (res:List a1):Prop:=
 ∀(w:World) (I B:Nat->Prop) (vs:List Value) (fs:List (List Nat)),(∀b,I b\/B b->b<w.heap.size)->nV (DT I B w) args vs fs->fs.flatten.Nodup->(∀b∈fs.flatten,¬I b/\¬B b/\b<w.heap.size)->TO w vs fs (sr 0 args)->mu E I w->Calls E.P f vs.toArray w (fun e w'=>∃I' gs hs eV,e=.returned (tP eV)/\TM I B w fs args vs res I' gs hs eV w')
def aq.e3:aq->Bool
 |.bJ .ey _|.ptr .ey _|.ee .ey _=>false
 |.bJ .cD t|.ptr .cD t|.osl t|.optr t|.st t|.mp t|.ee .cD t=>t.e3
 |.pr a b=>a.e3&&b.e3
 |_=>true
def wj:aq->Bool
 |.pr _ _|.nil|.dw=>false
 |_=>true
theorem asV {τ:aq} {cs ds:List Value} (hv:wj τ=true) (J:cs.length=τ.size) (R:ds.length=τ.size) (h:cH τ cs=cH τ ds):cs=ds:=by
 have one:τ.size=1->cH τ cs=cs.headD undef->cH τ ds=ds.headD undef->cs=ds:=(by intro hs aC aV;rw[hs] at J R;obtain⟨x,rfl⟩:=BB.1 J;obtain⟨y,rfl⟩:=BB.1 R;rw[aC,aV] at h;simpa using h);cases τ with
 |st t=>have h:Value.agg cs.toArray=Value.agg ds.toArray:=h;simpa using h
 |pr=>cases hv
 |nil=>cases hv
 |dw=>cases hv
 |_=>exact one rfl rfl rfl
def yB (h:List (Nat×a1)) (S:List Nat):aw->a1->Prop
 |.val τ x,t=>qj τ x t.1 t.2
 |.c5 v,t=>js t.1 v.cells.toList=some t.2/\cH t.1 v.cells.toList=v
 |.ref id p,t=>dJ id S=false/\∃yn τ y,az h id=some yn/\dr yn.1 yn.2 p τ y/\qj τ y t.1 t.2
 |_,_=>False
def acn (h:List (Nat×a1)) (S:List Nat):aw->hg->Prop
 |av,.v t=>yB h S av t
 |.ref id [],.m t _=>az h id=some t/\t.1.e3=true/\wj t.1=true
 |.ref id [],.o t=>az h id=some t
 |.dQ n l,.c m ca=>n=m/\i4 (yB h S) l ca
 |.c5 v,.o t=>v=.slice none 0 0/\∃τ,t=⟨.osl τ,[]⟩
 |.c5 v,.n=>v=.slice none 0 0
 |.view id [] lo hi,.w σ xs l e _=>az h id=some ⟨.osl σ,xs⟩/\(l=lo/\e=hi)/\lo<hi/\σ.e3=true
 |_,.s _ _=>True
 |_,_=>False
def re (h:List (Nat×a1)) (S:List Nat):List aw->List hg->Prop
 |[],[]=>True
 |a::as,b::bs=>acn h S a b/\re h S as bs
 |_,_=>False
def fd:List aw->List hg->List Nat
 |.ref id []::as,.m _ _::bs=>id::fd as bs
 |.ref id []::as,.o _::bs=>id::fd as bs
 |.view id [] _ _::as,.w _ _ _ _ _::bs=>id::fd as bs
 |_::as,_::bs=>fd as bs
 |_,_=>[]
def oh:List aw->List hg->List Nat
 |.ref id []::as,.m _ _::bs=>id::oh as bs
 |.view id [] _ _::as,.w _ _ _ _ _::bs=>id::oh as bs
 |_::as,_::bs=>oh as bs
 |_,_=>[]
def kE:List aw->List hg->List (Nat×a1)
 |.ref id []::as,.m t y::bs=>(id,⟨t.1,y⟩)::kE as bs
 |.view id [] _ _::as,.w σ _ _ _ aS::bs=>(id,⟨.osl σ,aS⟩)::kE as bs
 |_::as,_::bs=>kE as bs
 |_,_=>[]
def vV (d:Nat) (single:Bool) (j:Nat):Nat:=bif single then d else 1000*(d+1)+j
def yb (d:Nat) (single:Bool):Nat->List a1->List aw
 |_,[]=>[]
 |j,t::r=>(bif t.1.pure then .val t.1 t.2 else .ref (vV d single j) [])::yb d single (j+1) r
def jC (d:Nat) (single:Bool):Nat->List a1->List (Nat×a1)
 |_,[]=>[]
 |j,t::r=>bif t.1.pure then jC d single (j+1) r else(vV d single j,t)::jC d single (j+1) r
def AV (d:Nat):List a1->aw
 |[t]=>bif t.1.pure then .val t.1 t.2 else .ref d []
 |l=>.d3 (yb d false 0 l)
def jf:List a1->Bool
 |[_]=>true
 |_=>false
def j7:List Nat->Bool
 |[]=>true
 |a::r=>!(dJ a r)&&j7 r
theorem j7.ok:∀{l:List Nat},j7 l=true->l.Nodup
 |[],_=>List.nodup_nil
 |a::r,h=>by simp only[j7,bM,DX] at h;exact lQ.2 ⟨(fun ao=>by rw[eX.2 ao] at h;cases h.1),j7.ok h.2⟩
def aha (d:Nat) (st:ba) (avs:List aw) (args:List hg) (res:List a1):ba:=
 ⟨(d,AV d res)::kill (fd avs args) (C0 (oh avs args)) st.g,(kE avs args++jC d (jf res) 0 res)++del (fd avs args) st.h⟩
theorem bi.e3 {I B B':Nat->Prop} {w:World}:∀{τ:aq} {cs:List Value} {x:τ.den} {f:List Nat},τ.e3=true->bi (bK I B) w τ cs x f->bi (bK I B') w τ cs x f:=by
 intro τ
 induction τ with
 |bJ m t aT=>
  intro cs x f h hr;cases m
  ·obtain⟨lG,ad,cap,aK,aL,a8,bH⟩:=hr;refine⟨lG,ad,cap,aK,aL,a8,bH.imp id ?_⟩;rintro⟨b,o,aG,aa,ab⟩;refine⟨b,o,aG,aa,fun i y aB=>?_⟩;obtain⟨ds,cJ,cz,cX⟩:=ab i y aB;exact⟨ds,cJ,cz,aT (by simpa only[aq.e3] using h) cX⟩
  ·simp only[aq.e3] at h;cases h
 |ptr m t aT=>
  intro cs x f h hr;cases m
  ·obtain⟨lG,aK⟩:=hr;refine⟨lG,?_⟩;cases x with
   |none=>exact aK
   |some y=>
    obtain⟨b,o,ds,bX,bn,a9,bD,bW⟩:=aK;exact⟨b,o,ds,bX,bn,a9,bD,aT (by simpa only[aq.e3] using h) bW⟩
  ·simp only[aq.e3] at h;cases h
 |osl t aT=>
  intro cs x f h hr;obtain⟨ad,cap,aK,aL⟩:=hr;refine⟨ad,cap,aK,aL.imp id ?_⟩;rintro⟨b,o,dI,bX,bn,a9,bD,bW,cE⟩;refine⟨b,o,dI,bX,bn,a9,bD,bW,fun i y g aB aD=>?_⟩;obtain⟨ds,cJ,cz,cX⟩:=cE i y g aB aD;exact⟨ds,cJ,cz,aT (by simpa only[aq.e3] using h) cX⟩
 |optr t aT=>
  intro cs x f h hr;obtain⟨b,o,g,ds,aK,aL,a8,bH,dp,tM⟩:=hr;exact⟨b,o,g,ds,aK,aL,a8,bH,dp,aT (by simpa only[aq.e3] using h) tM⟩
 |st t aT=>intro cs x f h hr;exact aT (by simpa only[aq.e3] using h) hr
 |mp t aT=>
  intro cs x f h hr;cases x with
  |none=>exact hr
  |some q=>
   obtain⟨b,bG,L,aK,aL,eQ,a8,bH,dp⟩:=hr;refine⟨b,bG,L,aK,aL,eQ,a8,bH,fun i q ai=>?_⟩;obtain⟨ds,cJ,cz,cX⟩:=dp i q ai;exact⟨ds,cJ,cz,aT (by simpa only[aq.e3] using h) cX⟩
 |ee m t aT=>
  intro cs x f h hr;cases m
  ·cases x with
   |none=>exact hr
   |some q=>
    obtain⟨b,bG,L,aK,aL,eQ,aa,a8,bH,dp⟩:=hr;refine⟨b,bG,L,aK,aL,eQ,aa,a8,bH,fun i q ai=>?_⟩;obtain⟨ds,cJ,cz,cX⟩:=dp i q ai;exact⟨ds,cJ,cz,aT (by simpa only[aq.e3] using h) cX⟩
  ·simp only[aq.e3] at h;cases h
 |pr a b vi vj=>
  intro cs x f h hr;simp only[aq.e3,bM] at h;obtain⟨f1,cC,lG,aK,aL⟩:=hr;exact⟨f1,cC,lG,vi h.1 aK,vj h.2 aL⟩
 |_=>intro cs x f h hr;exact hr
theorem Yx {α aR:Type} (g:α->aR):∀(l:List (Nat×α)) (k:Nat),az (l.map fun q=>(q.1,g q.2)) k=(az l k).map g
 |[],_=>rfl
 |(k0,v)::l,k=>by rw[eY,db,db,Yx g l k];split<;>rfl
abbrev Eg:=a1×List Value×List Nat
def gw (rt:Nat->List Value):List aw->List hg->List (List Nat)->List (Nat×Eg)
 |.ref id []::as,.m t y::bs,g::gs=>(id,(⟨t.1,y⟩,rt id,g))::gw rt as bs gs
 |.view id [] _ _::as,.w σ _ _ _ aS::bs,g::gs=>(id,(⟨.osl σ,aS⟩,rt id,g))::gw rt as bs gs
 |_::as,_::bs,_::gs=>gw rt as bs gs
 |_,_,_=>[]
def ml (d:Nat) (single:Bool):Nat->List a1->List (List Value)->List (List Nat)->List (Nat×Eg)
 |j,t::r,c::cs,h::hs=>bif t.1.pure then ml d single (j+1) r cs hs else(vV d single j,(t,c,h))::ml d single (j+1) r cs hs
 |_,_,_,_=>[]
theorem Z6 {rt:Nat->List Value}:∀{as:List aw} {bs:List hg} {gs:List (List Nat)},gs.length=bs.length->(gw rt as bs gs).map (fun q=>(q.1,q.2.1))=kE as bs
 |[],bs,gs,_=>by cases bs<;>cases gs<;>rfl
 |a::as,[],gs,h=>by cases gs with
  |nil=>cases a<;>first|rfl|(rename_i id p;cases p<;>rfl)|(rename_i id p lo hi;cases p<;>rfl)
  |cons=>cases h
 |a::as,b::bs,[],h=>by cases h
 |a::as,b::bs,g::gs,h=>by
  have aT:=Z6 (rt:=rt) (as:=as) (bs:=bs) (gs:=gs) (by simpa using h);cases a with
  |ref id p=>cases p with
   |nil=>cases b<;>simp only[gw,kE,eY,aT]
   |cons=>cases b<;>simp only[gw,kE,aT]
  |view id p lo hi=>cases p with
   |nil=>cases b<;>simp only[gw,kE,eY,aT]
   |cons=>cases b<;>simp only[gw,kE,aT]
  |_=>cases b<;>simp only[gw,kE,aT]
theorem MF {d:Nat} {s:Bool}:∀{j:Nat} {res:List a1} {cs:List (List Value)} {hs:List (List Nat)},cs.length=res.length->hs.length=res.length->(ml d s j res cs hs).map (fun q=>(q.1,q.2.1))=jC d s j res
 |j,[],cs,hs,J,R=>by cases cs<;>cases hs<;>simp[ml,jC]
 |j,t::r,[],hs,J,R=>by cases J
 |j,t::r,c::cs,[],J,R=>by cases R
 |j,t::r,c::cs,h::hs,J,R=>by
  have aT:=MF (d:=d) (s:=s) (j:=j+1) (res:=r) (cs:=cs) (hs:=hs) (by simpa using J) (by simpa using R);simp only[ml,jC];cases t.1.pure
  ·simp only[cond_false,eY,aT]
  ·simp only[cond_true,aT]
section
variable {C:dZ} {st:ba} {bY:Array Value} {w w':World} {I I' B':Nat->Prop} {rt:Nat->List Value} {fp:Nat->List Nat}
theorem Z7 (ar:cc C st bY w I rt fp) {S:List Nat}:∀{avs:List aw} {vs:List Value} {args:List hg} {gs:List (List Nat)},i4 (cw (bK I C.B) w st.h rt fp) avs vs->re st.h S avs args->nV (DU I' B' w') args vs gs->∀q∈gw rt avs args gs,bi (bK I' C.B) w' q.2.1.1 q.2.2.1 q.2.1.2 q.2.2.2/\q.2.2.1=rt q.1/\q.1∈fd avs args/\∃t,az st.h q.1=some t/\q.2.1.1=t.1
 |[],vs,args,gs,aU,J,R,q,ai=>by cases args<;>cases gs<;>cases ai
 |x::xs,vs,[],gs,aU,J,R,q,ai=>by cases x<;>exact J.elim
 |x::xs,[],b::bs,gs,aU,J,R,q,ai=>aU.elim
 |x::xs,v::vs,b::bs,[],aU,J,R,q,ai=>R.elim
 |av::xs,v::vs,b::bs,g::gs,aU,J,R,q,ai=>by
  obtain⟨ab,ake⟩:=aU;obtain⟨n3,akg⟩:=J;obtain⟨xh,akh⟩:=R;have aT:=Z7 ar (S:=S) (avs:=xs) (args:=bs) (gs:=gs) ake akg akh;have dK:q∈gw rt xs bs gs->bi (bK I' C.B) w' q.2.1.1 q.2.2.1 q.2.1.2 q.2.2.2/\q.2.2.1=rt q.1/\q.1∈fd (av::xs) (b::bs)/\∃t,az st.h q.1=some t/\q.2.1.1=t.1:=by
   intro ai;obtain⟨aK,aL,a8,bH⟩:=aT q ai;refine⟨aK,aL,?_,bH⟩;cases av with
   |ref id p=>cases p<;>cases b<;>simp only[fd]<;>first|exact f6 _ a8|exact a8
   |view id p lo hi=>cases p<;>cases b<;>simp only[fd]<;>first|exact f6 _ a8|exact a8
   |_=>cases b<;>exact a8
  cases av with
  |ref id p=>
   cases p with
   |cons s p=>exact dK (by cases b<;>exact ai)
   |nil=>
    cases b with
    |v t=>exact dK ai
    |o t=>exact dK ai
    |c n ca=>exact dK ai
    |n=>exact dK ai
    |s f l=>exact dK ai
    |w σ xs lo hi aS=>exact dK ai
    |m t y=>
     simp only[gw,dV] at ai;rcases ai with rfl|ai
     ·obtain⟨bu,bE,cl⟩:=n3;obtain⟨cs,e,hr⟩:=xh;cases ab with|ref af ag=>
      rw[bu] at af;cases af;obtain⟨rfl,rfl,rfl⟩:=bk.fH.1 ag;have:=asV cl (ar.tree id _ bu).1.len hr.len e;subst this;exact⟨hr.e3 bE,rfl,by simp[fd],t,bu,rfl⟩
     ·exact dK ai
  |view id p lo hi=>
   cases p with
   |cons s p=>exact dK (by cases b<;>exact ai)
   |nil=>
    cases b with
    |w σ xs l e aS=>
     simp only[gw,dV] at ai;rcases ai with rfl|ai
     ·obtain⟨bu,⟨rfl,rfl⟩,bE,cl⟩:=n3;obtain⟨b,o,cap,e,ah,hr⟩:=xh;cases ab with
      |nJ=>omega
      |view af ag aK aL a8=>
      rename_i t' τ' loc cP bL vr fy;rw[bu] at af;cases af;obtain⟨aC,aV,b4⟩:=bk.fH.1 ag;simp only[aq.osl.injEq] at aC;subst aC;obtain⟨b2,c',bH,_⟩:=(ar.tree id _ bu).1;have nY:rt id=[.slice (some ⟨cP,bL,none⟩) vr fy]:=b4;rw[bH] at nY;simp only[hh,Value.slice.injEq,and_true] at nY;rw[if_neg (by omega)] at e;simp only[Value.slice.injEq,cI,Addr.mk.injEq,and_true] at e;obtain⟨⟨bX,bn⟩,a9,bD⟩:=e;have:rt id=[.slice (some ⟨b,o,none⟩) xs.length cap]:=(by rw[bH,nY.1,nY.2.2,<-bX,show o=bL by omega,show cap=fy by omega]);refine⟨?_,rfl,by simp[fd],_,bu,rfl⟩;show bi (bK I' C.B) w' (.osl _) (rt id) aS g;rw[this];exact hr.e3 cl
     ·exact dK ai
    |_=>exact dK ai
  |_=>exact dK (by cases b<;>exact ai)
theorem Z5 {S:List Nat}:∀{as:List aw} {args:List hg} {vs:List Value} {gs:List (List Nat)},re st.h S as args->nV (DU I' B' w') args vs gs->((gw rt as args gs).map (fun q=>q.2.2.2)).flatten=gs.flatten
 |[],[],vs,gs,J,R=>by cases vs<;>cases gs<;>first|rfl|exact R.elim
 |[],b::bs,vs,gs,J,R=>J.elim
 |a::as,[],vs,gs,J,R=>by cases a<;>exact J.elim
 |a::as,b::bs,[],gs,J,R=>R.elim
 |a::as,b::bs,v::vs,[],J,R=>R.elim
 |a::as,b::bs,v::vs,g::gs,J,R=>by
  have aT:=Z5 (as:=as) J.2 R.2;have n3:=J.1;have xh:=R.1;rw[kL,<-aT];cases b with
  |m t y=>
   cases a with
   |ref id p=>cases p with
    |nil=>simp only[gw,eY,kL]
    |cons=>exact n3.elim
   |_=>exact n3.elim
  |w σ xs lo hi aS=>
   cases a with
   |view id p l e=>cases p with
    |nil=>simp only[gw,eY,kL]
    |cons=>exact n3.elim
   |ref id p=>cases p<;>exact n3.elim
   |_=>exact n3.elim
  |v t=>
   have:g=[]:=xh;subst this;cases a with
   |ref id p=>cases p<;>simp only[gw,hj]
   |view id p l e=>cases p<;>simp only[gw,hj]
   |_=>simp only[gw,hj]
  |o t=>
   have:g=[]:=xh;subst this;cases a with
   |ref id p=>cases p<;>simp only[gw,hj]
   |view id p l e=>cases p<;>simp only[gw,hj]
   |_=>simp only[gw,hj]
  |n=>
   have:g=[]:=xh;subst this;cases a with
   |ref id p=>cases p<;>simp only[gw,hj]
   |view id p l e=>cases p<;>simp only[gw,hj]
   |_=>simp only[gw,hj]
  |s f l=>
   have:g=[]:=xh;subst this;cases a with
   |ref id p=>cases p<;>simp only[gw,hj]
   |view id p l e=>cases p<;>simp only[gw,hj]
   |_=>simp only[gw,hj]
  |c n ca=>
   have:g=[]:=xh;subst this;cases a with
   |ref id p=>cases p<;>simp only[gw,hj]
   |view id p l e=>cases p<;>simp only[gw,hj]
   |_=>simp only[gw,hj]
theorem aaJ {I:Nat->Prop}:∀{res:List a1} {eV:List Value} {hs:List (List Nat)},nV (Is I w) res eV hs->∃rC:List (List Value),rC.length=res.length/\hs.length=res.length/\eV.length=res.length/\∀(i:Nat) (t:a1) (c:List Value) (h:List Nat) (v:Value),res[i]?=some t->rC[i]?=some c->hs[i]?=some h->eV[i]?=some v->v=cH t.1 c/\bi (bK I (fun _=>False)) w t.1 c t.2 h
 |[],eV,hs,h=>by cases eV<;>cases hs<;>first|exact⟨[],rfl,rfl,rfl,fun i t c h v J=>by simp at J⟩|exact h.elim
 |t::r,[],hs,h=>h.elim
 |t::r,v::eV,[],h=>h.elim
 |t::r,v::eV,f::hs,h=>by
  obtain⟨⟨c,e,hr⟩,R⟩:=h;obtain⟨rC,da,l2,md,ax⟩:=aaJ R;refine⟨c::rC,by simp[da],by simp[l2],by simp[md],fun i t' c' a2 ed aC aV b4 fo=>?_⟩;cases i with
  |zero=>simp only[ld,cI] at aC aV b4 fo;subst aC;subst aV;subst b4;subst fo;exact⟨e,hr⟩
  |succ i=>exact ax i t' c' a2 ed (by simpa using aC) (by simpa using aV) (by simpa using b4) (by simpa using fo)
theorem aaL {d:Nat} {s:Bool}:∀{j:Nat} {res:List a1} {cs:List (List Value)} {hs:List (List Nat)},cs.length=res.length->hs.length=res.length->∀q∈ml d s j res cs hs,∃i:Nat,res[i]?=some q.2.1/\cs[i]?=some q.2.2.1/\hs[i]?=some q.2.2.2
 |j,[],cs,hs,J,R,q,ai=>by cases cs<;>cases hs<;>simp[ml] at ai
 |j,t::r,[],hs,J,R,q,ai=>by cases J
 |j,t::r,c::cs,[],J,R,q,ai=>by cases R
 |j,t::r,c::cs,h::hs,J,R,q,ai=>by
  simp only[ml] at ai;have more:q∈ml d s (j+1) r cs hs->∃i,(t::r)[i]?=some q.2.1/\(c::cs)[i]?=some q.2.2.1/\(h::hs)[i]?=some q.2.2.2:=fun ai=>(by obtain⟨i,aC,aV,b4⟩:=aaL (by simpa using J) (by simpa using R) q ai;exact⟨i+1,by rw[uq];exact aC,by rw[uq];exact aV,by rw[uq];exact b4⟩);cases ay:t.1.pure
  ·rw[ay] at ai;simp only[cond_false,dV] at ai;rcases ai with rfl|ai
   ·exact⟨0,rfl,rfl,rfl⟩
   ·exact more ai
  ·rw[ay] at ai;exact more ai
theorem aaK {d:Nat} {s:Bool}:∀{j:Nat} {res:List a1} {cs:List (List Value)} {hs:List (List Nat)},((ml d s j res cs hs).map (fun q=>q.2.2.2)).flatten.Sublist hs.flatten
 |j,[],cs,hs=>by simp[ml]
 |j,t::r,[],hs=>by simp[ml]
 |j,t::r,c::cs,[]=>by simp[ml]
 |j,t::r,c::cs,h::hs=>by
  have aT:=aaK (d:=d) (s:=s) (j:=j+1) (res:=r) (cs:=cs) (hs:=hs);simp only[ml];cases t.1.pure
  ·simp only[cond_false,eY,kL];exact List.Sublist.append (List.Sublist.refl h) aT
  ·simp only[cond_true,kL];exact aT.trans (List.sublist_append_right _ _)
theorem Uq (ar:cc C st bY w I rt fp) {S:List Nat} (eP:∀b,C.B b->B' b) (s9:∀id t,az st.h id=some t->dJ id S=false->∀b∈fp id,B' b) {av:aw} {v:Value} (ab:cw (bK I C.B) w st.h rt fp av v) {t:a1} (aG:yB st.h S av t):∃cs,v=cH t.1 cs/\bi (bK I B') w t.1 cs t.2 []:=by
 cases av with
 |val τ y=>
  have aG:qj τ y t.1 t.2:=aG;cases ab with|val r=>
  exact⟨_,aG.st _,aG.rep eP r (by simp)⟩
 |c5 u=>
  obtain⟨aK,aL⟩:=aG;cases ab;exact⟨_,aL.symm,sZ aK⟩
 |ref id p=>
  obtain⟨bB,yn,τ,y,bu,bE,cl⟩:=aG;cases ab with|ref af ag=>
  rw[bu] at af;cases af;obtain⟨rfl,f,hr,_,aF⟩:=ar.l3 bu bE ag;exact⟨_,cl.st _,cl.rep eP hr (fun b aa=>s9 id _ bu bB b (aF b aa))⟩
 |_=>exact aG.elim
theorem Ut (ar:cc C st bY w I rt fp) {S:List Nat} (eP:∀b,C.B b->B' b) (s9:∀id t,az st.h id=some t->dJ id S=false->∀b∈fp id,B' b):∀{avs:List aw} {vs:List Value} {ca:List a1},i4 (cw (bK I C.B) w st.h rt fp) avs vs->i4 (yB st.h S) avs ca->i4 (D0 I B' w) ca vs
 |[],[],[],_,_=>trivial
 |[],_::_,_,h,_=>h.elim
 |_::_,[],_,h,_=>h.elim
 |[],_,_::_,_,h=>h.elim
 |_::_,_,[],_,h=>h.elim
 |_::_,_::_,_::_,h,a2=>⟨Uq ar eP s9 h.1 a2.1,Ut ar eP s9 h.2 a2.2⟩
theorem Uv (ar:cc C st bY w I rt fp) {S:List Nat} (eP:∀b,C.B b->B' b) (s9:∀id t,az st.h id=some t->dJ id S=false->∀b∈fp id,B' b):∀{avs:List aw} {vs:List Value} {args:List hg},i4 (cw (bK I C.B) w st.h rt fp) avs vs->re st.h S avs args->∃fs,nV (DT I B' w) args vs fs/\fs.flatten=((fd avs args).map fp).flatten
 |[],vs,args,aU,h=>by cases args with
  |nil=>cases vs with
   |nil=>exact⟨[],trivial,rfl⟩
   |cons=>exact aU.elim
  |cons=>exact h.elim
 |x::xs,vs,[],aU,h=>by cases x<;>exact h.elim
 |x::xs,[],b::bs,aU,h=>aU.elim
 |av::xs,v::vs,b::bs,aU,h=>by
  obtain⟨ab,aU⟩:=aU;obtain⟨aG,aa⟩:=h;obtain⟨fs,J,R⟩:=Uv ar eP s9 aU aa;cases b with
  |v t=>
   have e:fd (av::xs) (.v t::bs)=fd xs bs:=by cases av<;>first|rfl|(rename_i id p;cases p<;>rfl)|(rename_i id p l e;cases p<;>rfl)
   have aG:yB st.h S av t:=(by cases av<;>exact aG);exact⟨[]::fs,⟨⟨rfl,Uq ar eP s9 ab aG⟩,J⟩,by rw[e];simpa using R⟩
  |s f l=>
   have e:fd (av::xs) (.s f l::bs)=fd xs bs:=by cases av<;>first|rfl|(rename_i id p;cases p<;>rfl)|(rename_i id p l e;cases p<;>rfl)
   exact⟨[]::fs,⟨rfl,J⟩,by rw[e];simpa using R⟩
  |n=>
   cases av with
   |c5 u=>
    obtain rfl:u=.slice none 0 0:=aG;cases ab;exact⟨[]::fs,⟨⟨rfl,rfl⟩,J⟩,by simpa[fd] using R⟩
   |ref id p=>cases p<;>exact aG.elim
   |_=>exact aG.elim
  |c n ca=>
   cases av with
   |dQ m l=>
    obtain⟨rfl,aG⟩:=aG;cases ab with|dQ ah ax=>
    rename_i gh;refine⟨[]::fs,⟨⟨rfl,gh.toList,rfl,Ut ar eP s9 (IE (by simpa using ah) (fun i a b J R=>ax i a b J (by simpa using R))) aG⟩,J⟩,by simpa[fd] using R⟩
   |ref id p=>cases p<;>exact aG.elim
   |_=>exact aG.elim
  |w σ xs lo hi aS=>
   cases av with
   |view id p l e=>cases p with
    |nil=>
     obtain⟨bu,⟨rfl,rfl⟩,bE,cl⟩:=aG;cases ab with
     |nJ=>omega
     |view af ag aK aL a8=>
     rename_i t' τ' loc cP bL vr fy;rw[bu] at af;cases af;obtain⟨aC,aV,b4⟩:=bk.fH.1 ag;simp only[aq.osl.injEq] at aC;subst aC;have hr:=(ar.tree id _ bu).1;have nY:rt id=[.slice (some ⟨cP,bL,none⟩) vr fy]:=b4;have qF:=hr;obtain⟨b2,c',bH,dp⟩:=qF;rw[bH] at nY;simp only[hh,Value.slice.injEq,and_true] at nY;have dR:xs.length=vr:=nY.2.1;refine⟨fp id::fs,⟨⟨cP,bL,fy,?_,⟨bE,by omega,by omega⟩,?_⟩,J⟩,by simp only[fd,eY,kL,R]⟩
     ·rw[if_neg (by omega)]
     ·have:=bi.e3 (τ:=.osl σ) (B':=B') cl hr;rw[bH,nY.1,nY.2.2] at this;exact this
    |cons=>exact aG.elim
   |ref id p=>cases p<;>exact aG.elim
   |_=>exact aG.elim
  |m t y=>
   cases av with
   |ref id p=>cases p with
    |nil=>
     obtain⟨bu,bE,_⟩:=aG;cases ab with|ref af ag=>
     rw[bu] at af;cases af;obtain⟨rfl,rfl,rfl⟩:=bk.fH.1 ag;exact⟨fp id::fs,⟨⟨rt id,rfl,(ar.tree id _ bu).1.e3 bE⟩,J⟩,by simp only[fd,eY,kL,R]⟩
    |cons=>exact aG.elim
   |_=>exact aG.elim
  |o t=>
   cases av with
   |ref id p=>cases p with
    |nil=>
     have bu:az st.h id=some t:=aG;cases ab with|ref af ag=>
     rw[bu] at af;cases af;obtain⟨rfl,rfl,rfl⟩:=bk.fH.1 ag;refine⟨fp id::fs,⟨⟨rt id,rfl,(ar.tree id _ bu).1.mono (fun m b ao=>⟨?_,c3.refl w b⟩) (fun b _=>c3.refl w b)⟩,J⟩,by simp only[fd,eY,kL,R]⟩;cases m
     ·exact ao
     ·exact ao.imp (fun h=>h) (eP b)
    |cons=>exact aG.elim
   |c5 u=>
    obtain⟨rfl,τ,rfl⟩:=aG;cases ab;exact⟨[]::fs,⟨⟨[.slice none 0 0],rfl,none,0,rfl,.inl ⟨rfl,rfl,rfl,rfl⟩⟩,J⟩,by simpa[fd] using R⟩
   |_=>exact aG.elim
end
end
section
def pt (d:Nat) (st:ba) (avs:List aw) (args:List hg) (res:List a1):Bool:=
 j7 (fd avs args)&&j7 ((kE avs args++jC d (jf res) 0 res).map (·.1))&&(jC d (jf res) 0 res).all fun q=>(az st.h q.1).isNone
section
variable {E:eI} {C:dZ} {st:ba} {a:Act} {w w':World} {I I' B':Nat->Prop} {rt:Nat->List Value} {fp:Nat->List Nat}
theorem Ya {rt:Nat->List Value} {S:List Nat} {h:List (Nat×a1)}:∀{as:List aw} {bs:List hg} {gs:List (List Nat)},re h S as bs->gs.length=bs.length->∀id∈oh as bs,∃q∈gw rt as bs gs,q.1=id/\az h id=some ⟨q.2.1.1,(match az h id with|some t=>if e:t.1=q.2.1.1 then e▸t.2 else q.2.1.2|none=>q.2.1.2)⟩
 |[],bs,gs,_,_,id,h=>by cases bs<;>cases h
 |a::as,[],gs,J,_,id,h=>by cases a<;>exact J.elim
 |a::as,b::bs,[],_,ah,id,h=>by cases ah
 |a::as,b::bs,g::gs,J,ah,id,h=>by
  have aT:=Ya (rt:=rt) (as:=as) (bs:=bs) (gs:=gs) J.2 (by simpa using ah) id;have n3:=J.1;cases a with
  |ref i p=>cases p with
   |nil=>
    cases b with
    |m t y=>
     simp only[oh,dV] at h;simp only[gw];rcases h with rfl|h
     ·refine⟨_,mB ..,rfl,?_⟩;rw[n3.1];simp
     ·obtain⟨q,ai,e⟩:=aT h;exact⟨q,f6 _ ai,e⟩
    |_=>exact aT h
   |cons=>cases b<;>exact aT h
  |view i p l e=>cases p with
   |nil=>
    cases b with
    |w σ xs lo hi aS=>
     simp only[oh,dV] at h;simp only[gw];rcases h with rfl|h
     ·refine⟨_,mB ..,rfl,?_⟩;rw[n3.1];simp
     ·obtain⟨q,ai,e⟩:=aT h;exact⟨q,f6 _ ai,e⟩
    |_=>exact aT h
   |cons=>cases b<;>exact aT h
  |_=>cases b<;>exact aT h
theorem NC {α aR rc:Type} {b8:α->aR->rc->Prop}:∀{as:List α} {bs:List aR} {cs:List rc},nV b8 as bs cs->bs.length=as.length/\cs.length=as.length
 |[],bs,cs,h=>by cases bs<;>cases cs<;>first|exact⟨rfl,rfl⟩|exact h.elim
 |a::as,[],cs,h=>h.elim
 |a::as,b::bs,[],h=>h.elim
 |a::as,b::bs,c::cs,h=>by obtain⟨J,R⟩:=NC h.2;simp[J,R]
theorem apn {L:List (Nat×Eg)} (h:((L.map fun q=>q.2.2.2).flatten).Nodup):(∀q∈L,q.2.2.2.Nodup)/\∀i j x8 x9,az L i=some x8->az L j=some x9->i≠j->∀b∈x8.2.2,b∉x9.2.2:=by
 induction L with
 |nil=>exact⟨by simp,fun i j x8 x9 h=>by cases h⟩
 |cons x L aT=>
  obtain⟨k,x⟩:=x;simp only[eY,kL,kO] at h;obtain⟨J,R,ae⟩:=h;obtain⟨i1,i2⟩:=aT R;refine⟨fun q ai=>?_,fun i j x8 x9 hi al dz b aa=>?_⟩
  ·rcases dV.1 ai with rfl|ai
   ·exact J
   ·exact i1 q ai
  ·rw[db] at hi al;have CT:∀cN gH,az L cN=some gH->∀c∈gH.2.2,c∈(L.map fun q=>q.2.2.2).flatten:=fun cN gH ac c hc=>kN.2 ⟨_,dj.2 ⟨(cN,gH),GM ac,rfl⟩,hc⟩;split at hi
   ·rename_i aC;split at al
    ·rename_i aV;exact absurd (aC.symm.trans aV) dz
    ·obtain rfl:=ff hi;intro cM;exact ae b aa b (CT j x9 al b cM) rfl
   ·split at al
    ·obtain rfl:=ff al;intro cM;exact ae b cM b (CT i x8 hi b aa) rfl
    ·exact i2 i j x8 x9 hi al dz b aa
theorem LR {α:Type}:∀{L:List (Nat×α)},(L.map (·.1)).Nodup->∀{q:Nat×α},q∈L->az L q.1=some q.2
 |[],_,q,h=>by cases h
 |(k,x)::L,ag,q,h=>by
  simp only[eY,lQ] at ag;rw[db];rcases dV.1 h with rfl|h
  ·rw[if_pos rfl]
  ·rw[if_neg (fun e=>ag.1 (by rw[e];exact dj.2 ⟨q,h,rfl⟩))];exact LR ag.2 h
theorem aaG {d:Nat} {s:Bool}:∀{j:Nat} {res:List a1} {i:Nat} {av:aw},(yb d s j res)[i]?=some av->∃t,res[i]?=some t/\av=(bif t.1.pure then .val t.1 t.2 else .ref (vV d s (j+i)) [])
 |j,[],i,av,h=>by simp[yb] at h
 |j,t::r,i,av,h=>by
  simp only[yb] at h;cases i with
  |zero=>simp only[ld,cI] at h;exact⟨t,rfl,h.symm⟩
  |succ i=>
   obtain⟨t',J,R⟩:=aaG (by simpa using h);exact⟨t',by simpa using J,by rw[R,show j+1+i=j+(i+1) by omega]⟩
theorem aaH {d:Nat} {s:Bool}:∀{j:Nat} {res:List a1},(yb d s j res).length=res.length
 |j,[]=>rfl
 |j,t::r=>by simp[yb,aaH]
theorem aaM {d:Nat} {s:Bool}:∀{j:Nat} {res:List a1} {cs:List (List Value)} {hs:List (List Nat)},cs.length=res.length->hs.length=res.length->∀(i:Nat) t c h,res[i]?=some t->cs[i]?=some c->hs[i]?=some h->t.1.pure=false->(vV d s (j+i),(t,c,h))∈ml d s j res cs hs
 |j,[],cs,hs,_,_,i,t,c,h,aC,_,_,_=>by simp at aC
 |j,t::r,[],hs,J,_,_,_,_,_,_,_,_,_=>by cases J
 |j,t::r,c::cs,[],_,R,_,_,_,_,_,_,_,_=>by cases R
 |j,t::r,c::cs,h::hs,J,R,i,t',c',a2,aC,aV,b4,ay=>by
  simp only[ml];cases i with
  |zero=>
   simp only[ld,cI] at aC aV b4;subst aC;subst aV;subst b4;rw[ay];exact mB ..
  |succ i=>
   have:=aaM (d:=d) (s:=s) (j:=j+1) (res:=r) (cs:=cs) (hs:=hs) (by simpa using J) (by simpa using R) i t' c' a2 (by simpa using aC) (by simpa using aV) (by simpa using b4) ay;rw[show j+1+i=j+(i+1) by omega] at this;cases t.1.pure
   ·exact f6 _ this
   ·exact this
end
section
variable {E:eI} {C:dZ} {st:ba} {bv:Array Oper} {Q:ba->Prop}
theorem abA {h:List (Nat×a1)} {S:List Nat}:∀{as:List aw} {bs:List hg},re h S as bs->∀id∈fd as bs,∃t,az h id=some t
 |[],bs,_,id,bh=>by cases bs<;>cases bh
 |a::as,[],J,id,bh=>by cases a<;>exact J.elim
 |a::as,b::bs,J,id,bh=>by
  have aT:=abA (as:=as) (bs:=bs) J.2 id;have n3:=J.1;cases a with
  |ref i p=>cases p with
   |nil=>
    cases b with
    |m t y=>
     simp only[fd,dV] at bh;rcases bh with rfl|bh
     ·exact⟨_,n3.1⟩
     ·exact aT bh
    |o t=>
     simp only[fd,dV] at bh;rcases bh with rfl|bh
     ·exact⟨_,n3⟩
     ·exact aT bh
    |_=>exact aT bh
   |cons=>cases b<;>exact aT bh
  |view i p l e=>cases p with
   |nil=>
    cases b with
    |w σ xs lo hi aS=>
     simp only[fd,dV] at bh;rcases bh with rfl|bh
     ·exact⟨_,n3.1⟩
     ·exact aT bh
    |_=>exact aT bh
   |cons=>cases b<;>exact aT bh
  |_=>cases b<;>exact aT bh
theorem Rq {bY:Array Value} {w:World} {I:Nat->Prop} {rt:Nat->List Value} {fp:Nat->List Nat} (ar:cc C st bY w I rt fp):∀{S:List Nat},(∀id∈S,∃t,az st.h id=some t)->S.Nodup->((S.map fp).flatten).Nodup
 |[],_,_=>by simp
 |id::S,h,ag=>by rw[lQ] at ag;simp only[eY,kL,kO];obtain⟨t,af⟩:=h id (by simp);refine⟨(ar.tree id t af).2.1,Rq ar (fun i hi=>h i (by simp[hi])) ag.2,fun b aa c hc e=>?_⟩;subst e;obtain⟨l',J,R⟩:=kN.1 hc;obtain⟨fS,W5,rfl⟩:=dj.1 J;obtain⟨t',bx⟩:=h fS (by simp[W5]);exact ar.dis id fS t t' af bx (fun e=>ag.1 (e▸W5)) b aa R
def afX (M:du->Nat->Prop) (w:World) (d:Nat) (res:List a1) (rtn:Nat->List Value) (v:Value):Prop:=
 ∀(h:List (Nat×a1)) (rt:Nat->List Value) (fp:Nat->List Nat),(∀q∈jC d (jf res) 0 res,az h q.1=some q.2/\rt q.1=rtn q.1)->cw M w h rt fp (AV d res) v
theorem cc.glob {E:eI} {C:dZ} {st:ba} {bY:Array Value} {w:World} {I:Nat->Prop} {rt:Nat->List Value} {fp:Nat->List Nat} (ar:cc C st bY w I rt fp) (ac:∀b,C.I0 b\/C.B b->b<C.w0.heap.size/\¬C.F0 b) (h:mu E C.I0 C.w0):mu E I w:=
 h.mono ar.i0 fun b aa=>ar.frame b (ac b (.inl aa)).1 (ac b (.inl aa)).2
theorem cc.call {C:dZ} {st:ba} {bY:Array Value} {w:World} {I:Nat->Prop} {rt:Nat->List Value} {fp:Nat->List Nat} (ar:cc C st bY w I rt fp) {d f:Nat} {avs:List aw} {vs:List Value} (Cv:i4 (cw (bK I C.B) w st.h rt fp) avs vs) {args:List hg} {res:List a1} (hc:wv E f args res) (aG:re st.h (fd avs args) avs args) (ac:pt d st avs args res=true) (F7:∀fs:List (List Nat),(∀b∈fs.flatten,∃id t,az st.h id=some t/\b∈fp id)->TO w vs fs (sr 0 args)) (nt:mu E I w):Calls E.P f vs.toArray w (fun e w'=>∃I' rtn fpn eV,e=.returned (tP eV)/\pj C st w w' I I' rt fp (fd avs args) (C0 (oh avs args)) (kE avs args++jC d (jf res) 0 res) rtn fpn/\afX (bK I' C.B) w' d res rtn (tP eV)):=by
 simp only[pt,bM,fk] at ac;obtain⟨⟨mS,ga⟩,FV⟩:=ac;have mS:=j7.ok mS;have ga:=j7.ok ga
 let S:=fd avs args
 let B':Nat->Prop:=fun b=>C.B b\/∃id t,az st.h id=some t/\dJ id S=false/\b∈fp id
 have akk:∀b,C.B b->B' b:=fun b aa=>.inl aa;have s9:∀id t,az st.h id=some t->dJ id S=false->∀b∈fp id,B' b:=fun id t af ao b aa=>.inr ⟨id,t,af,ao,aa⟩;obtain⟨fs,Cy,u4⟩:=Uv ar (B':=B') (S:=S) akk s9 (args:=args) Cv aG;have F9:∀id∈S,∃t,az st.h id=some t:=fun id bh=>abA aG id bh;have FSq:∀b∈fs.flatten,∃id∈S,∃t,az st.h id=some t/\b∈fp id:=(by intro b aa;rw[u4] at aa;obtain⟨l',J,R⟩:=kN.1 aa;obtain⟨id,bh,rfl⟩:=dj.1 J;obtain⟨t,af⟩:=F9 id bh;exact⟨id,bh,t,af,R⟩);have alc:fs.flatten.Nodup:=(by rw[u4];exact Rq ar F9 mS);have FM:=hc w I B' vs fs (fun b aa=>by
  rcases aa with aa|aa|⟨id,t,af,_,aa⟩
  ·exact ar.ib b (.inl aa)
  ·exact ar.ib b (.inr aa)
  ·exact((ar.tree id t af).2.2 b aa).2.2.1) Cy alc (fun b aa=>by
  obtain⟨id,bh,t,af,hB⟩:=FSq b aa;obtain⟨aK,aL,a8,bH⟩:=(ar.tree id t af).2.2 b hB;refine⟨aK,?_,a8⟩;rintro(h|⟨fS,t',bx,ao,cM⟩)
  ·exact aL h
  ·have cL:id≠fS:=fun e=>(by rw[<-e,eX.2 bh] at ao;cases ao);exact ar.dis id fS t t' af bx cL b hB cM) (F7 fs fun b aa=>by
  obtain⟨id,_,t,af,hB⟩:=FSq b aa;exact⟨id,t,af,hB⟩) nt
 refine FM.mono ?_;rintro e w' ⟨I',gs,hs,eV,rfl,ay⟩;obtain⟨rC,GJ,GK,GL,tm⟩:=aaJ ay.res;have K9:=(NC ay.args).2;have WG:re st.h S avs args:=aG
 let L:List (Nat×Eg):=gw rt avs args gs++ml d (jf res) 0 res rC hs
 have Ww:L.map (fun q=>(q.1,q.2.1))=kE avs args++jC d (jf res) 0 res:=(by simp only[L,jS];rw[Z6 K9,MF GJ GK]);have Wt:(L.map (·.1)).Nodup:=(by have:L.map (·.1)=(L.map (fun q=>(q.1,q.2.1))).map (·.1):=(by simp[wE]);rw[this,Ww];exact ga);have ak9:((gw rt avs args gs).map (fun q=>q.2.2.2)).flatten=gs.flatten:=Z5 WG ay.args;have hC:((ml d (jf res) 0 res rC hs).map (fun q=>q.2.2.2)).flatten.Sublist hs.flatten:=aaK;have Ws:((L.map fun q=>q.2.2.2).flatten).Sublist (gs.flatten++hs.flatten):=(by simp only[L,jS,um];rw[ak9];exact List.Sublist.append (List.Sublist.refl _) hC);obtain⟨akv,aku⟩:=apn (ay.Dh.sublist Ws);have PZ:∀q∈gw rt avs args gs,bi (bK I' C.B) w' q.2.1.1 q.2.2.1 q.2.1.2 q.2.2.2/\q.2.2.1=rt q.1/\q.1∈S/\∃t,az st.h q.1=some t/\q.2.1.1=t.1:=(by exact Z7 ar (S:=S) (args:=args) (gs:=gs) Cv aG ay.args);have akw:∀q∈L,bi (bK I' C.B) w' q.2.1.1 q.2.2.1 q.2.1.2 q.2.2.2/\(q.1∈S\/az st.h q.1=none):=by
  intro q ai;rcases fe.1 ai with ai|ai
  ·obtain⟨aK,_,a8,_⟩:=PZ q ai;exact⟨aK,.inl a8⟩
  ·obtain⟨k,aC,aV,b4⟩:=aaL GJ GK q ai;have pE:k<eV.length:=(by rw[GL];exact(e9.1 aC).1);obtain⟨_,hr⟩:=tm k _ _ _ eV[k] aC aV b4 (by simp);refine⟨hr.mono (fun m b ao=>⟨?_,c3.refl _ _⟩) (fun b _=>c3.refl _ _),.inr ?_⟩
   ·cases m
    ·exact ao
    ·exact ao.elim .inl (fun h=>h.elim)
   ·have ao:(q.1,q.2.1)∈jC d (jf res) 0 res:=by
     rw[<-MF (d:=d) (s:=jf res) (j:=0) GJ GK];exact dj.2 ⟨q,ai,rfl⟩
    exact Option.isNone_iff_eq_none.1 (FV _ ao)
 have akt:∀q∈L,∀b∈q.2.2.2,b∈gs.flatten++hs.flatten:=fun q ai b aa=>Ws.subset (kN.2 ⟨_,dj.2 ⟨q,ai,rfl⟩,aa⟩);have th:∀k,az (kE avs args++jC d (jf res) 0 res) k=(az L k).map (·.1):=fun k=>by rw[<-Ww];exact Yx (fun q:Eg=>q.1) L k
 let rtn:Nat->List Value:=fun k=>match az L k with|some q=>q.2.1|none=>[]
 let fpn:Nat->List Nat:=fun k=>match az L k with|some q=>q.2.2|none=>[]
 have aQ:pj C st w w' I I' rt fp S (C0 (oh avs args)) (kE avs args++jC d (jf res) 0 res) rtn fpn:=
  ⟨ay.size,ay.os,ay.tape,ay.output,fun b aa bB=>ay.heap b aa (fun aF=>by obtain⟨id,bh,t,af,hB⟩:=FSq b aF;exact bB id bh t af hB),ay.evo,ay.i,(fun b aa=>by
    rcases ay.i2 b aa with h|⟨J,R|R⟩
    ·exact .inl h
    ·exact .inr ⟨J,.inl R⟩
    ·exact .inr ⟨J,.inr (FSq b R)⟩),
   (fun id t bh=>by
    rw[th] at bh;cases eQ:az L id with
    |none=>rw[eQ] at bh;cases bh
    |some q=>
     rw[eQ] at bh;obtain rfl:q.1=t:=ff bh;have ao:=GM eQ;obtain⟨J,R⟩:=akw _ ao;refine⟨R,by simp only[rtn,fpn,eQ];exact J,by simp only[fpn,eQ];exact akv _ ao,fun b aa=>?_⟩;simp only[fpn,eQ] at aa;obtain⟨aK,aL,a8,bH⟩:=ay.UI b (akt _ ao b aa);exact⟨aK,a8,bH.imp (fun h=>h) (FSq b)⟩),
   (fun i j t u hi al dz b aa=>by
    rw[th] at hi al;cases Ph:az L i with
    |none=>rw[Ph] at hi;cases hi
    |some x8=>
     cases Pj:az L j with
     |none=>rw[Pj] at al;cases al
     |some x9=>
      simp only[fpn,Ph] at aa;simp only[fpn,Pj];exact aku i j x8 x9 Ph Pj dz b aa),
   (fun ep Cx t af=>by
    obtain⟨id,bh,rfl⟩:=dj.1 Cx;obtain⟨q,ai,e,_⟩:=Ya (rt:=rt) WG K9 id bh;subst e;have ao:q∈L:=rh _ ai;have ah:=LR Wt ao;obtain⟨_,R,_,t',ae,aI⟩:=PZ q ai;rw[af] at ae;obtain rfl:=ff ae;exact⟨q.2.1,by rw[th,ah];rfl,aI,by simp only[rtn,ah];exact R,⟨t.1,by cases t.1<;>rfl⟩,fun q _ _ _ ac=>by rw[LJ] at ac;cases ac⟩),
   (fun ep Cx t af q _ _ _ _ _ aN=>by
    obtain⟨id,bh,rfl⟩:=dj.1 Cx;rw[zx] at aN;cases aN)⟩
 refine⟨I',rtn,fpn,eV,rfl,aQ,fun J atk ajI ax=>?_⟩;have one:∀(k:Nat) (t:a1) (v:Value),res[k]?=some t->eV[k]?=some v->cw (bK I' C.B) w' J atk ajI (bif t.1.pure then .val t.1 t.2 else .ref (vV d (jf res) (0+k)) []) v:=by
  intro k t v aC aV;have pE:k<res.length:=(e9.1 aC).1;obtain⟨b4,hr⟩:=tm k t rC[k] hs[k] v aC (by simp) (by simp) aV;subst b4;cases Xl:t.1.pure with
  |true=>
   simp only[cond_true];have:=hr.pure Xl;rw[this] at hr;refine .val (hr.mono (fun m b ao=>⟨?_,c3.refl _ _⟩) (by simp));cases m
   ·exact ao
   ·exact ao.elim .inl (fun h=>h.elim)
  |false=>
   simp only[cond_false];have jw:=aaM (d:=d) (s:=jf res) (j:=0) GJ GK k t rC[k] hs[k] aC (by simp) (by simp) Xl;have ao:(vV d (jf res) (0+k),(t,rC[k],hs[k]))∈L:=oH _ jw;have tj:(vV d (jf res) (0+k),t)∈jC d (jf res) 0 res:=(by rw[<-MF (d:=d) (s:=jf res) (j:=0) GJ GK];exact dj.2 ⟨_,jw,rfl⟩);obtain⟨aK,aL⟩:=ax _ tj;refine .ref (t:=t) (loc:=none) aK ?_;have fo:rtn (vV d (jf res) (0+k))=rC[k]:=(by simp only[rtn,LR Wt ao]);rw[aL,fo];exact bk.here
 cases xz:res with
 |nil=>
  have:eV=[]:=pb (by rw[GL,xz];rfl);subst this;exact .d3 (vs:=#[]) rfl (fun i a v h=>by simp[yb] at h)
 |cons t r=>
  cases r with
  |nil=>
   obtain⟨v,rfl⟩:∃v,eV=[v]:=BB.1 (by rw[GL,xz];rfl);have:=one 0 t v (by rw[xz];rfl) rfl;rw[xz] at this;exact this
  |cons t2 r=>
   have F5:tP eV=.tuple eV.toArray:=by
    have:eV.length=(t::t2::r).length:=by rw[GL,xz]
    match eV,this with
    |v1::f0::aw2,_=>rfl
   rw[F5];refine .d3 (by simp[aaH,GL,xz]) (fun i av v J R=>?_);obtain⟨t',aC,aV⟩:=aaG J;have:=one i t' v (by rw[xz];exact aC) (by simpa using R);rw[xz] at this;rw[aV];exact this
theorem aaN {d:Nat} {s:Bool} {res:List a1} {l:List (Nat×a1)} (ag:((l++jC d s 0 res).map (·.1)).Nodup):∀q∈jC d s 0 res,az (l++jC d s 0 res) q.1=some q.2:=
 fun q ai=>LR ag (oH _ ai)
theorem dW.call {Q:ba->Prop} {d f:Nat} {o:Oper} {x:Operand} {l:List aw} {xs argTypes:Array _} (bZ:o.op=.call {callee:=.value x,args:=xs,argTypes:=argTypes}) (Ai:bj st.g x=.dQ f l) (aN:o.dst=some d) (c0:C.ok d) (oS:∀(vs:Array Value) (w:World),(callFunc f vs).run E.P w=.ok (.enter f vs) w) {args:List hg} {res:List a1} (hc:wv E f args res) (F7:sr 0 args=none) (Pc:∀b,C.I0 b\/C.B b->b<C.w0.heap.size/\¬C.F0 b) (Pd:mu E C.I0 C.w0) (aG:re st.h (fd (xs.toList.map (bj st.g)++l) args) (xs.toList.map (bj st.g)++l) args) (ac:pt d st (xs.toList.map (bj st.g)++l) args res=true) (h:Q (aha d st (xs.toList.map (bj st.g)++l) args res)):dW E C o st Q:=by
 rintro a w ⟨I,rt,fp,ar⟩ next X eb
 obtain⟨gh,Qe,Pa⟩:∃gh:Array Value,a.eval x=.func (.func f) #[] gh/\i4 (cw (bK I C.B) w st.h rt fp) l gh.toList:=by
  have ab:=ar.bj x;rw[Ai] at ab;generalize hv:a.eval x=v at ab;cases ab with|dQ ah ax=>
  exact⟨_,rfl,IE (by simpa using ah) (fun i a b J R=>ax i a b J (by simpa using R))⟩
 have Cv:i4 (cw (bK I C.B) w st.h rt fp) (xs.toList.map (bj st.g)++l) (xs.toList.map a.eval++gh.toList):=NA (NB (fun x=>ar.bj x) _) Pa;have FM:=ar.call Cv hc aG ac (fun _ _=>by rw[F7];trivial) (ar.glob Pc Pd);generalize awl:xs.toList.map (bj st.g)++l=avs at*;have eA:(execOp a.eval o).run E.P w=.ok (.enter f (xs.toList.map a.eval++gh.toList).toArray) w:=(by have aC:xs.map a.eval=(xs.toList.map a.eval).toArray:=(by rw[<-Array.toList_map]);have b4:(xs.toList.map a.eval++gh.toList).toArray=(xs.toList.map a.eval).toArray++gh:=(by simp);rw[b4];simp only[execOp,bZ,resolve,aC,Sem.run_bind,Qe,Deferred.ofValue,Sem.run_pure,Result.andThen_ok,invoke,Array.empty_append,Array.append_empty];exact oS _ _);unfold Oper.wp;rw[eA];show Calls E.P f _ w _;refine FM.mono ?_;rintro e w' ⟨I',rtn,fpn,eV,rfl,aQ,jd⟩;show next (a.put o.dst (tP eV)) w'
 rw[aN];have ga:=ac;simp only[pt,bM] at ga;have ag:=j7.ok ga.1.2;refine eb _ _ _ h rfl ⟨I',_,_,(ar.fZ aQ).put c0 (av:=AV d res) (jd _ _ _ (fun q ai=>?_))⟩;have:=aaN ag q ai;exact⟨by rw[k1,this];rfl,by simp only[d9,this]⟩
end
end
end Go.lP
end
