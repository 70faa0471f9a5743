/-
  Parts of the proof: Fw19, Fw20, Fw21: the framework (Fw), pure forms (Dn), plain laws (Pl, Th), calls of functions (Ok).
-/
import Derived.Test.YtkhcdgkdpjahpaaGreatDoorB8a9942d4

set_option linter.all false
noncomputable section
namespace Go.mz
def yY:dE->dE->Bool
 |.cL,_=>true
 |.eN,.eN=>true
 |.eN,.cL=>false
def Ed:dE->Bool
 |.eN=>true
 |.cL=>false
def dH:au->au->Bool
 |.int k,.int c0=>if k=c0 then true else false
 |.bool,.bool|.str,.str|.nil,.nil=>true
 |.bM m t,.bM iW u=>yY m iW&&dH t u
 |.osl t,.bM m u=>Ed m&&dH t u
 |.ptr m t,.ptr iW u=>yY m iW&&dH t u
 |.st t,.st u=>dH t u
 |.pr a b,.pr c d=>dH a c&&dH b d
 |.mp t,.ey m u=>Ed m&&dH t u
 |.ey m t,.ey iW u=>yY m iW&&dH t u
 |_,_=>false
theorem yY.ok {I B B':Nat->Prop} (dZ:∀b,B b->B' b) {m iW:dE} (h:yY m iW=true) {b:Nat} (aa:bP I B m b):bP I B' iW b:=by
 cases m<;>cases iW
 ·exact aa
 ·exact .inl aa
 ·cases h
 ·exact aa.imp id (dZ b)
theorem Ed.ok {m:dE} (h:Ed m=true):m=.eN:=by cases m;cases h;rfl
theorem dH.den:∀{τ υ:au},dH τ υ=true->τ.den=υ.den:=by
 intro τ
 induction τ with
 |bM m t aZ=>
  intro υ h;cases υ<;>simp only[dH] at h<;>try (cases h;done)
  simp only[bW] at h;exact congrArg List (aZ h.2)
 |ptr m t aZ=>
  intro υ h;cases υ<;>simp only[dH] at h<;>try (cases h;done)
  simp only[bW] at h;exact congrArg Option (aZ h.2)
 |osl t aZ=>
  intro υ h;cases υ<;>simp only[dH] at h<;>try (cases h;done)
  simp only[bW] at h;exact congrArg List (aZ h.2)
 |st t aZ=>
  intro υ h;cases υ with
  |st u=>exact aZ (υ:=u) (by simpa only[dH] using h)
  |_=>simp only[dH] at h;cases h
 |pr a b wy wz=>
  intro υ h;cases υ<;>simp only[dH] at h<;>try (cases h;done)
  simp only[bW] at h;show(a.den×b.den)=_;rw[wy h.1,wz h.2]
 |int k=>intro υ h;cases υ<;>simp only[dH] at h<;>first|rfl|cases h
 |bool=>intro υ h;cases υ<;>simp only[dH] at h<;>first|rfl|cases h
 |str=>intro υ h;cases υ<;>simp only[dH] at h<;>first|rfl|cases h
 |nil=>intro υ h;cases υ<;>simp only[dH] at h<;>first|rfl|cases h
 |optr t _=>intro υ h;cases υ<;>simp only[dH] at h<;>cases h
 |dG=>intro υ h;cases υ<;>simp only[dH] at h<;>cases h
 |mp t aZ=>
  intro υ h;cases υ<;>simp only[dH] at h<;>try (cases h;done)
  simp only[bW] at h;exact congrArg (fun α=>Option (List (Int×α)×Nat)) (aZ h.2)
 |ey m t aZ=>
  intro υ h;cases υ<;>simp only[dH] at h<;>try (cases h;done)
  simp only[bW] at h;exact congrArg (fun α=>Option (List (Int×α)×Nat)) (aZ h.2)
theorem dH.size:∀{τ υ:au},dH τ υ=true->τ.size=υ.size:=by
 intro τ
 induction τ with
 |st t aZ=>intro υ h;cases υ<;>simp only[dH] at h<;>first|(simp only[au.size];exact aZ h)|cases h
 |pr a b wy wz=>
  intro υ h;cases υ<;>simp only[dH] at h<;>try (cases h;done)
  simp only[bW] at h;simp only[au.size];rw[wy h.1,wz h.2]
 |_=>intro υ h;cases υ<;>simp only[dH] at h<;>first|rfl|cases h
theorem ZP {α aT:Type} (e:α=aT) {x:Option (List (Int×α)×Nat)} {y:Option (List (Int×aT)×Nat)} (h:HEq x y):(x=none/\y=none)\/∃l c l',x=some (l,c)/\y=some (l',c)/\∀L:List (Int×Nat×α),lZ L l c->∃iu:List (Int×Nat×aT),lZ iu l' c/\iu.length=L.length/\∀(i:Nat) (f7:Int×Nat×aT),iu[i]?=some f7->∃q:Int×Nat×α,L[i]?=some q/\q.1=f7.1/\q.2.1=f7.2.1/\HEq q.2.2 f7.2.2:=by
 subst e;cases h;cases x with
 |none=>exact .inl ⟨rfl,rfl⟩
 |some a=>exact .inr ⟨a.1,a.2,a.1,rfl,rfl,fun L e4=>⟨L,e4,rfl,fun i q aj=>⟨q,aj,rfl,rfl,HEq.rfl⟩⟩⟩
theorem dH.cQ {τ υ:au} (h:dH τ υ=true) (cs:List Value):cQ υ cs=mz.cQ τ cs:=by cases τ<;>cases υ<;>simp only[dH] at h<;>first|rfl|cases h
theorem ZO {α aT:Type} (e:α=aT) {l:List α} {l':List aT} (h:HEq l l'):l'.length=l.length/\∀(i:Nat) (b:aT),l'[i]?=some b->∃a,l[i]?=some a/\HEq a b:=by subst e;cases h;exact⟨rfl,fun i b aa=>⟨b,aa,HEq.rfl⟩⟩
theorem ao7 {α aT:Type} (e:α=aT) {l:Option α} {l':Option aT} (h:HEq l l'):(l=none/\l'=none)\/∃a b,l=some a/\l'=some b/\HEq a b:=by
 subst e;cases h;cases l with
 |none=>exact .inl ⟨rfl,rfl⟩
 |some a=>exact .inr ⟨a,a,rfl,rfl,HEq.rfl⟩
theorem ao8 {α aT sh afN:Type} (e:α=sh) (dI:aT=afN) {x:α×aT} {y:sh×afN} (h:HEq x y):HEq x.1 y.1/\HEq x.2 y.2:=by subst e;subst dI;cases h;exact⟨HEq.rfl,HEq.rfl⟩
theorem br.eN {I B B':Nat->Prop} {w:World} (dZ:∀b,B b->B' b):∀{τ υ:au} {cs:List Value} {x:τ.den} {y:υ.den} {f:List Nat},dH τ υ=true->HEq x y->br (bP I B) w τ cs x f->(∀b∈f,B' b)->br (bP I B') w υ cs y []:=by
 intro τ
 induction τ with
 |int k=>
  intro υ cs x y f h aE hr _;cases υ<;>simp only[dH] at h<;>try (cases h;done)
  split at h
  ·rename_i e;subst e;cases aE;exact⟨rfl,hr.2⟩
  ·cases h
 |bool=>intro υ cs x y f h aE hr _;cases υ<;>simp only[dH] at h<;>first|(cases h;done)|(cases aE;exact⟨rfl,hr.2⟩)
 |str=>intro υ cs x y f h aE hr _;cases υ<;>simp only[dH] at h<;>first|(cases h;done)|(cases aE;exact⟨rfl,hr.2⟩)
 |nil=>intro υ cs x y f h aE hr _;cases υ<;>simp only[dH] at h<;>first|(cases h;done)|(cases aE;exact⟨rfl,hr.2⟩)
 |optr t _=>intro υ cs x y f h;cases υ<;>simp only[dH] at h<;>cases h
 |dG=>intro υ cs x y f h;cases υ<;>simp only[dH] at h<;>cases h
 |mp t aZ=>
  intro υ cs x y f h aE hr aH;cases υ<;>simp only[dH] at h<;>try (cases h;done)
  simp only[bW] at h;obtain rfl:=Ed.ok h.1;rcases ZP (dH.den h.2) aE with⟨rfl,rfl⟩|⟨l,c,l',rfl,rfl,ab⟩
  ·exact⟨rfl,hr.2⟩
  ·obtain⟨b,bK,L,aN,aM,e4,bb,bH,dv⟩:=hr;obtain⟨iu,RI,ai,ab⟩:=ab L e4;refine⟨b,bK,iu,aN,rfl,RI,.inr (aH b (by rw[aM];simp)),bb,by rw[ai];exact bH,fun i f7 fN=>?_⟩;obtain⟨q,J,R,ac,aL⟩:=ab i f7 fN;obtain⟨ds,cK,cG,c9⟩:=dv i q J;exact⟨ds,by rw[<-dH.size h.2];exact cK,by rw[cG,dH.cQ h.2,R,ac],aZ h.2 aL c9 (by simp)⟩
 |ey m t aZ=>
  intro υ cs x y f h aE hr aH;cases υ<;>simp only[dH] at h<;>try (cases h;done)
  simp only[bW] at h;rcases ZP (dH.den h.2) aE with⟨rfl,rfl⟩|⟨l,c,l',rfl,rfl,ab⟩
  ·exact⟨rfl,hr.2⟩
  ·obtain⟨b,bK,L,aN,aM,e4,aa,bb,bH,dv⟩:=hr;obtain⟨iu,RI,ai,ab⟩:=ab L e4;refine⟨b,bK,iu,aN,rfl,RI,yY.ok dZ h.1 aa,bb,by rw[ai];exact bH,fun i f7 fN=>?_⟩;obtain⟨q,J,R,ac,aL⟩:=ab i f7 fN;obtain⟨ds,cK,cG,c9⟩:=dv i q J;exact⟨ds,by rw[<-dH.size h.2];exact cK,by rw[cG,dH.cQ h.2,R,ac],aZ h.2 aL c9 (by simp)⟩
 |st t aZ=>
  intro υ cs x y f h aE hr aH;cases υ with
  |st u=>exact aZ (υ:=u) (x:=x) (y:=y) (by simpa only[dH] using h) aE hr aH
  |_=>simp only[dH] at h;cases h
 |pr a b wy wz=>
  intro υ cs x y f h aE hr aH;cases υ<;>simp only[dH] at h<;>try (cases h;done)
  rename_i c d;simp only[bW] at h;obtain⟨f1,cE,rfl,J,R⟩:=hr;obtain⟨aA,aX⟩:=ao8 (dH.den h.1) (dH.den h.2) aE;have hs:=dH.size h.1;exact⟨[],[],rfl,by rw[<-hs];exact wy h.1 aA J (fun b aa=>aH b (by simp[aa])),by rw[<-hs];exact wz h.2 aX R (fun b aa=>aH b (by simp[aa]))⟩
 |bM m t aZ=>
  intro υ cs x y f h aE hr aH;obtain⟨rfl,ad,cap,rfl,aN,aM,bb⟩:=hr;cases υ<;>simp only[dH] at h<;>try (cases h;done)
  rename_i iW u;simp only[bW] at h;obtain⟨ai,ab⟩:=ZO (dH.den h.2) aE;refine⟨rfl,ad,cap,by rw[ai],by rw[ai];exact aN,aM,?_⟩;rcases bb with rfl|⟨b,o,rfl,o4,nD⟩
  ·left;exact qi (by rw[ai];rfl)
  ·right;refine⟨b,o,rfl,yY.ok dZ h.1 o4,fun i z a2=>?_⟩;obtain⟨h8,J,R⟩:=ab i z a2;obtain⟨ds,cK,cG,c9⟩:=nD i h8 J;rw[<-dH.size h.2];exact⟨ds,cK,cG,aZ h.2 R c9 (by simp)⟩
 |osl t aZ=>
  intro υ cs x y f h aE hr aH;cases υ<;>simp only[dH] at h<;>try (cases h;done)
  rename_i iW u;simp only[bW] at h;obtain rfl:=Ed.ok h.1;obtain⟨ad,cap,rfl,hr⟩:=hr;obtain⟨ai,ab⟩:=ZO (dH.den h.2) aE;rcases hr with⟨rfl,rfl,rfl,rfl⟩|⟨b,o,dR,rfl,rfl,aN,aM,bb,bH⟩
  ·obtain rfl:y=[]:=qi (by rw[ai];rfl);exact⟨rfl,none,0,rfl,bU _,fun _=>rfl,.inl rfl⟩
  ·refine⟨rfl,some ⟨b,o,none⟩,cap,by rw[ai],by rw[ai];exact aM,(fun h=>by cases h),.inr ⟨b,o,rfl,.inr (aH b (by simp)),fun i z a2=>?_⟩⟩;obtain⟨h8,J,R⟩:=ab i z a2;have hi:i<x.length:=(fu.1 J).1;obtain⟨ds,cK,cG,c9⟩:=bH i h8 (dR[i]'(by omega)) J (by simp)
   rw[<-dH.size h.2];exact⟨ds,cK,cG,aZ h.2 R c9 (fun c hc=>aH c (gC _ (lw.2 ⟨_,dy (by omega),hc⟩)))⟩
 |ptr m t aZ=>
  intro υ cs x y f h aE hr aH;obtain⟨rfl,hr⟩:=hr;cases υ<;>simp only[dH] at h<;>try (cases h;done)
  rename_i iW u;simp only[bW] at h;refine⟨rfl,?_⟩;rcases ao7 (dH.den h.2) aE with⟨rfl,rfl⟩|⟨a,b,rfl,rfl,o6⟩
  ·exact hr
  ·obtain⟨P0,o,ds,b2,bo,a5,bw,bV⟩:=hr;exact⟨P0,o,ds,b2,yY.ok dZ h.1 bo,by rw[<-dH.size h.2];exact a5,bw,aZ h.2 o6 bV (by simp)⟩
inductive rh:(τ:au)->τ.den->(υ:au)->υ.den->Prop
 |same {τ υ:au} {x:τ.den} {y:υ.den} (h:dH τ υ=true) (aE:HEq x y):rh τ x υ y
 |ptr {t u:au} {x:t.den} {y:u.den} (h:dH t u=true) (aE:HEq x y):rh (.optr t) x (.ptr .eN u) (some y)
theorem rh.rep {I B B':Nat->Prop} {w:World} (dZ:∀b,B b->B' b) {τ υ:au} {cs:List Value} {x:τ.den} {y:υ.den} {f:List Nat} (h:rh τ x υ y) (hr:br (bP I B) w τ cs x f) (aH:∀b∈f,B' b):br (bP I B') w υ cs y []:=by
 cases h with
 |same h aE=>exact hr.eN dZ h aE aH
 |ptr h aE=>
  obtain⟨b,o,ij,ds,rfl,rfl,aN,aM,bb,bH⟩:=hr;exact⟨rfl,b,o,ds,rfl,.inr (aH b (by simp)),by rw[<-dH.size h];exact aN,aM,bH.eN dZ h aE (fun c hc=>aH c (by simp[hc]))⟩
theorem rh.st {τ υ:au} {x:τ.den} {y:υ.den} (h:rh τ x υ y) (cs:List Value):cQ τ cs=cQ υ cs:=by
 cases h with
 |same h _=>cases τ<;>cases υ<;>first|rfl|(simp only[dH] at h;cases h;done)
 |ptr h _=>rfl
section
def oV {α aT sh:Type} (cd:α->aT->sh->Prop):List α->List aT->List sh->Prop
 |[],[],[]=>True
 |a::as,b::bs,c::cs=>cd a b c/\oV cd as bs cs
 |_,_,_=>False
def jt {α aT:Type} (cd:α->aT->Prop):List α->List aT->Prop
 |[],[]=>True
 |a::as,b::bs=>cd a b/\jt cd as bs
 |_,_=>False
theorem WO {α aT:Type} {cd:α->aT->Prop}:∀{as:List α} {bs:List aT},jt cd as bs->bs.length=as.length
 |[],[],_=>rfl
 |[],_::_,h=>h.elim
 |_::_,[],h=>h.elim
 |a::as,b::bs,h=>by have:=WO h.2;simp[this]
theorem PO {α aT:Type} {cd:α->aT->Prop}:∀{as:List α} {bs:List aT} {Xh:List α} {XE:List aT},jt cd as bs->jt cd Xh XE->jt cd (as++Xh) (bs++XE)
 |[],[],_,_,_,h=>h
 |[],_::_,_,_,h,_=>h.elim
 |_::_,[],_,_,h,_=>h.elim
 |a::as,b::bs,_,_,h,a7=>⟨h.1,PO h.2 a7⟩
theorem Kp {α aT:Type} {cd:α->aT->Prop}:∀{as:List α} {bs:List aT},as.length=bs.length->(∀(i:Nat) a b,as[i]?=some a->bs[i]?=some b->cd a b)->jt cd as bs
 |[],[],_,_=>trivial
 |[],_::_,h,_=>by cases h
 |_::_,[],h,_=>by cases h
 |a::as,b::bs,h,ay=>⟨ay 0 a b rfl rfl,Kp (by simpa using h) (fun i x y J R=>ay (i+1) x y (by simpa using J) (by simpa using R))⟩
theorem PP {α aT sh:Type} {cd:aT->sh->Prop} {f:α->aT} {g:α->sh} (h:∀x,cd (f x) (g x)):∀l:List α,jt cd (l.map f) (l.map g)
 |[]=>trivial
 |x::l=>⟨h x,PP h l⟩
inductive hK where
 |v (t:a6)
 |m (t:a6) (y:t.1.den)
 |o (t:a6)
 |c (f:Nat) (cp:List a6)
 |n
 |s (f:Nat) (l:List Nat)
 |w (σ:au) (xs:List σ.den) (lo hi:Nat) (aW:List σ.den)
def Fp (I B:Nat->Prop) (w:World) (t:a6) (v:Value):Prop:=∃cs,v=cQ t.1 cs/\br (bP I B) w t.1 cs t.2 []
def Fi (I B:Nat->Prop) (w:World):hK->Value->List Nat->Prop
 |.v t,v,f=>f=[]/\∃cs,v=cQ t.1 cs/\br (bP I B) w t.1 cs t.2 []
 |.m t _,v,f=>∃cs,v=cQ t.1 cs/\br (bP I B) w t.1 cs t.2 f
 |.o t,v,f=>∃cs,v=cQ t.1 cs/\br (bP I B) w t.1 cs t.2 f
 |.n,v,f=>f=[]/\v=.slice none 0 0
 |.s _ _,_,f=>f=[]
 |.w σ xs lo hi _,v,f=>∃b o cap,v=.slice (some ⟨b,o+lo*σ.size,none⟩) (hi-lo) (cap-lo)/\(lo<hi/\hi<=xs.length/\xs.length<=cap)/\br (bP I B) w (.osl σ) [.slice (some ⟨b,o,none⟩) xs.length cap] xs f
 |.c n cp,v,f=>f=[]/\∃vs:List Value,v=.func (.func n) #[] vs.toArray/\jt (Fp I B w) cp vs
def tu:Nat->List hK->Option aCl
 |_,[]=>none
 |k,.s f l::_=>some (k,f,l)
 |k,_::r=>tu (k+1) r
def Wv (w:World) (vs:List Value) (fs:List (List Nat)):Option aCl->Prop
 |none=>True
 |some (k,f,l)=>k<vs.length/\(∀j∈l,j<vs.length)/\∃b o gL,vs.getD k undef=.pointer (some ⟨b,o,none⟩)/\b<w.heap.size/\b∉fs.flatten/\w.cell? ⟨b,o,none⟩=some (.func (.func f) #[] gL)/\gL.toList=l.map fun j=>vs.getD j undef
def Fj (I B:Nat->Prop) (w:World):hK->Value->List Nat->Prop
 |.m t y,v,g=>∃cs,v=cQ t.1 cs/\br (bP I B) w t.1 cs y g
 |.w σ xs lo hi aW,v,g=>∃b o cap,v=.slice (some ⟨b,o+lo*σ.size,none⟩) (hi-lo) (cap-lo)/\lo<cap/\br (bP I B) w (.osl σ) [.slice (some ⟨b,o,none⟩) xs.length cap] aW g
 |_,_,g=>g=[]
def Ke (I:Nat->Prop) (w:World) (t:a6) (v:Value) (h:List Nat):Prop:=∃cs,v=cQ t.1 cs/\br (bP I (fun _=>False)) w t.1 cs t.2 h
def uY:List Value->Value
 |[v]=>v
 |vs=>.tuple vs.toArray
structure Wt (I B:Nat->Prop) (w:World) (fs:List (List Nat)) (args:List hK) (vs:List Value) (res:List a6) (I':Nat->Prop) (gs hs:List (List Nat)) (fa:List Value) (w':World):Prop where
 args:oV (Fj I' B w') args vs gs
 res:oV (Ke I' w') res fa hs
 EC:(gs.flatten++hs.flatten).Nodup
 Xu:∀b∈gs.flatten++hs.flatten,¬I' b/\¬B b/\b<w'.heap.size/\(w.heap.size<=b\/b∈fs.flatten)
 i:∀b,I b->I' b
 i2:∀b,I' b->I b\/(b<w'.heap.size/\(w.heap.size<=b\/b∈fs.flatten))
 size:w.heap.size<=w'.heap.size
 os:w'.os=w.os
 tape:w'.tape=w.tape
 output:w'.output=w.output
 evo:∀b,b<w.heap.size->my w w' b
 heap:∀b,b<w.heap.size->b∉fs.flatten->w'.heap[b]?=w.heap[b]?
def nf (E:eV) (I:Nat->Prop) (w:World):Prop:=∀g∈E.glob,br (bP I fun _=>False) w (.bM .cL (.int g.k)) [.slice (some ⟨g.b,0,none⟩) g.xs.length g.xs.length] g.xs []
theorem nf.mono {E:eV} {I I':Nat->Prop} {w w':World} (h:nf E I w) (hi:∀b,I b->I' b) (hw:∀b,I b->w'.heap[b]?=w.heap[b]?):nf E I' w':=fun g aG=>
 (h g aG).mono (fun m b ak=>by
  have aa:I b:=(by cases m;exact ak;exact ak.elim id False.elim);exact⟨by cases m;exact hi b aa;exact .inl (hi b aa),df.of_heap (hw b aa)⟩) (fun b aa=>by cases aa)
def xB (E:eV) (f:FuncId) (args:List hK) (res:List a6):Prop:=
 ∀(w:World) (I B:Nat->Prop) (vs:List Value) (fs:List (List Nat)),(∀b,I b\/B b->b<w.heap.size)->oV (Fi I B w) args vs fs->fs.flatten.Nodup->(∀b∈fs.flatten,¬I b/\¬B b/\b<w.heap.size)->Wv w vs fs (tu 0 args)->nf E I w->Calls E.P f vs.toArray w (fun e w'=>∃I' gs hs fa,e=.returned (uY fa)/\Wt I B w fs args vs res I' gs hs fa w')
def au.fq:au->Bool
 |.bM .eN _|.ptr .eN _|.ey .eN _=>false
 |.bM .cL t|.ptr .cL t|.osl t|.optr t|.st t|.mp t|.ey .cL t=>t.fq
 |.pr a b=>a.fq&&b.fq
 |_=>true
def xu:au->Bool
 |.pr _ _|.nil|.dG=>false
 |_=>true
theorem axw {τ:au} {cs ds:List Value} (hv:xu τ=true) (J:cs.length=τ.size) (R:ds.length=τ.size) (h:cQ τ cs=cQ τ ds):cs=ds:=by
 have one:τ.size=1->cQ τ cs=cs.headD undef->cQ τ ds=ds.headD undef->cs=ds:=(by intro hs aA aX;rw[hs] at J R;obtain⟨x,rfl⟩:=CR.1 J;obtain⟨y,rfl⟩:=CR.1 R;rw[aA,aX] at h;simpa using h);cases τ with
 |st t=>have h:Value.agg cs.toArray=Value.agg ds.toArray:=h;simpa using h
 |pr=>cases hv
 |nil=>cases hv
 |dG=>cases hv
 |_=>exact one rfl rfl rfl
def zK (h:List (Nat×a6)) (S:List Nat):ax->a6->Prop
 |.val τ x,t=>rh τ x t.1 t.2
 |.dh v,t=>jT t.1 v.cells.toList=some t.2/\cQ t.1 v.cells.toList=v
 |.ref id p,t=>dS id S=false/\∃zx τ y,aD h id=some zx/\dD zx.1 zx.2 p τ y/\rh τ y t.1 t.2
 |_,_=>False
def afQ (h:List (Nat×a6)) (S:List Nat):ax->hK->Prop
 |av,.v t=>zK h S av t
 |.ref id [],.m t _=>aD h id=some t/\t.1.fq=true/\xu t.1=true
 |.ref id [],.o t=>aD h id=some t
 |.d1 n l,.c m cp=>n=m/\jt (zK h S) l cp
 |.dh v,.o t=>v=.slice none 0 0/\∃τ,t=⟨.osl τ,[]⟩
 |.dh v,.n=>v=.slice none 0 0
 |.view id [] lo hi,.w σ xs l e _=>aD h id=some ⟨.osl σ,xs⟩/\(l=lo/\e=hi)/\lo<hi/\σ.fq=true
 |_,.s _ _=>True
 |_,_=>False
def si (h:List (Nat×a6)) (S:List Nat):List ax->List hK->Prop
 |[],[]=>True
 |a::as,b::bs=>afQ h S a b/\si h S as bs
 |_,_=>False
def fG:List ax->List hK->List Nat
 |.ref id []::as,.m _ _::bs=>id::fG as bs
 |.ref id []::as,.o _::bs=>id::fG as bs
 |.view id [] _ _::as,.w _ _ _ _ _::bs=>id::fG as bs
 |_::as,_::bs=>fG as bs
 |_,_=>[]
def pi:List ax->List hK->List Nat
 |.ref id []::as,.m _ _::bs=>id::pi as bs
 |.view id [] _ _::as,.w _ _ _ _ _::bs=>id::pi as bs
 |_::as,_::bs=>pi as bs
 |_,_=>[]
def li:List ax->List hK->List (Nat×a6)
 |.ref id []::as,.m t y::bs=>(id,⟨t.1,y⟩)::li as bs
 |.view id [] _ _::as,.w σ _ _ _ aW::bs=>(id,⟨.osl σ,aW⟩)::li as bs
 |_::as,_::bs=>li as bs
 |_,_=>[]
def w8 (d:Nat) (single:Bool) (j:Nat):Nat:=bif single then d else 1000*(d+1)+j
def zj (d:Nat) (single:Bool):Nat->List a6->List ax
 |_,[]=>[]
 |j,t::r=>(bif t.1.pure then .val t.1 t.2 else .ref (w8 d single j) [])::zj d single (j+1) r
def j4 (d:Nat) (single:Bool):Nat->List a6->List (Nat×a6)
 |_,[]=>[]
 |j,t::r=>bif t.1.pure then j4 d single (j+1) r else(w8 d single j,t)::j4 d single (j+1) r
def Ca (d:Nat):List a6->ax
 |[t]=>bif t.1.pure then .val t.1 t.2 else .ref d []
 |l=>.ei (zj d false 0 l)
def jE:List a6->Bool
 |[_]=>true
 |_=>false
def kF:List Nat->Bool
 |[]=>true
 |a::r=>!(dS a r)&&kF r
theorem kF.ok:∀{l:List Nat},kF l=true->l.Nodup
 |[],_=>List.nodup_nil
 |a::r,h=>by simp only[kF,bW,Fm] at h;exact mB.2 ⟨(fun ak=>by rw[fd.2 ak] at h;cases h.1),kF.ok h.2⟩
def ak3 (d:Nat) (st:bj) (avs:List ax) (args:List hK) (res:List a6):bj:=
 ⟨(d,Ca d res)::kill (fG avs args) (Ei (pi avs args)) st.g,(li avs args++j4 d (jE res) 0 res)++del (fG avs args) st.h⟩
theorem br.fq {I B B':Nat->Prop} {w:World}:∀{τ:au} {cs:List Value} {x:τ.den} {f:List Nat},τ.fq=true->br (bP I B) w τ cs x f->br (bP I B') w τ cs x f:=by
 intro τ
 induction τ with
 |bM m t aZ=>
  intro cs x f h hr;cases m
  ·obtain⟨mm,ad,cap,aN,aM,bb,bH⟩:=hr;refine⟨mm,ad,cap,aN,aM,bb,bH.imp id ?_⟩;rintro⟨b,o,aC,aa,ab⟩;refine⟨b,o,aC,aa,fun i y aB=>?_⟩;obtain⟨ds,cK,cG,c9⟩:=ab i y aB;exact⟨ds,cK,cG,aZ (by simpa only[au.fq] using h) c9⟩
  ·simp only[au.fq] at h;cases h
 |ptr m t aZ=>
  intro cs x f h hr;cases m
  ·obtain⟨mm,aN⟩:=hr;refine⟨mm,?_⟩;cases x with
   |none=>exact aN
   |some y=>
    obtain⟨b,o,ds,b2,bo,a5,bw,bV⟩:=aN;exact⟨b,o,ds,b2,bo,a5,bw,aZ (by simpa only[au.fq] using h) bV⟩
  ·simp only[au.fq] at h;cases h
 |osl t aZ=>
  intro cs x f h hr;obtain⟨ad,cap,aN,aM⟩:=hr;refine⟨ad,cap,aN,aM.imp id ?_⟩;rintro⟨b,o,dR,b2,bo,a5,bw,bV,cq⟩;refine⟨b,o,dR,b2,bo,a5,bw,bV,fun i y g aB aG=>?_⟩;obtain⟨ds,cK,cG,c9⟩:=cq i y g aB aG;exact⟨ds,cK,cG,aZ (by simpa only[au.fq] using h) c9⟩
 |optr t aZ=>
  intro cs x f h hr;obtain⟨b,o,g,ds,aN,aM,bb,bH,dv,p9⟩:=hr;exact⟨b,o,g,ds,aN,aM,bb,bH,dv,aZ (by simpa only[au.fq] using h) p9⟩
 |st t aZ=>intro cs x f h hr;exact aZ (by simpa only[au.fq] using h) hr
 |mp t aZ=>
  intro cs x f h hr;cases x with
  |none=>exact hr
  |some q=>
   obtain⟨b,bK,L,aN,aM,e4,bb,bH,dv⟩:=hr;refine⟨b,bK,L,aN,aM,e4,bb,bH,fun i q aj=>?_⟩;obtain⟨ds,cK,cG,c9⟩:=dv i q aj;exact⟨ds,cK,cG,aZ (by simpa only[au.fq] using h) c9⟩
 |ey m t aZ=>
  intro cs x f h hr;cases m
  ·cases x with
   |none=>exact hr
   |some q=>
    obtain⟨b,bK,L,aN,aM,e4,aa,bb,bH,dv⟩:=hr;refine⟨b,bK,L,aN,aM,e4,aa,bb,bH,fun i q aj=>?_⟩;obtain⟨ds,cK,cG,c9⟩:=dv i q aj;exact⟨ds,cK,cG,aZ (by simpa only[au.fq] using h) c9⟩
  ·simp only[au.fq] at h;cases h
 |pr a b wy wz=>
  intro cs x f h hr;simp only[au.fq,bW] at h;obtain⟨f1,cE,mm,aN,aM⟩:=hr;exact⟨f1,cE,mm,wy h.1 aN,wz h.2 aM⟩
 |_=>intro cs x f h hr;exact hr
theorem abz {α aT:Type} (g:α->aT):∀(l:List (Nat×α)) (k:Nat),aD (l.map fun q=>(q.1,g q.2)) k=(aD l k).map g
 |[],_=>rfl
 |(k0,v)::l,k=>by rw[ff,dq,dq,abz g l k];split<;>rfl
abbrev FD:=a6×List Value×List Nat
def gT (rt:Nat->List Value):List ax->List hK->List (List Nat)->List (Nat×FD)
 |.ref id []::as,.m t y::bs,g::gs=>(id,(⟨t.1,y⟩,rt id,g))::gT rt as bs gs
 |.view id [] _ _::as,.w σ _ _ _ aW::bs,g::gs=>(id,(⟨.osl σ,aW⟩,rt id,g))::gT rt as bs gs
 |_::as,_::bs,_::gs=>gT rt as bs gs
 |_,_,_=>[]
def m1 (d:Nat) (single:Bool):Nat->List a6->List (List Value)->List (List Nat)->List (Nat×FD)
 |j,t::r,c::cs,h::hs=>bif t.1.pure then m1 d single (j+1) r cs hs else(w8 d single j,(t,c,h))::m1 d single (j+1) r cs hs
 |_,_,_,_=>[]
theorem adh {rt:Nat->List Value}:∀{as:List ax} {bs:List hK} {gs:List (List Nat)},gs.length=bs.length->(gT rt as bs gs).map (fun q=>(q.1,q.2.1))=li as bs
 |[],bs,gs,_=>by cases bs<;>cases gs<;>rfl
 |a::as,[],gs,h=>by cases gs with
  |nil=>cases a<;>first|rfl|(rename_i id p;cases p<;>rfl)|(rename_i id p lo hi;cases p<;>rfl)
  |cons=>cases h
 |a::as,b::bs,[],h=>by cases h
 |a::as,b::bs,g::gs,h=>by
  have aZ:=adh (rt:=rt) (as:=as) (bs:=bs) (gs:=gs) (by simpa using h);cases a with
  |ref id p=>cases p with
   |nil=>cases b<;>simp only[gT,li,ff,aZ]
   |cons=>cases b<;>simp only[gT,li,aZ]
  |view id p lo hi=>cases p with
   |nil=>cases b<;>simp only[gT,li,ff,aZ]
   |cons=>cases b<;>simp only[gT,li,aZ]
  |_=>cases b<;>simp only[gT,li,aZ]
theorem OM {d:Nat} {s:Bool}:∀{j:Nat} {res:List a6} {cs:List (List Value)} {hs:List (List Nat)},cs.length=res.length->hs.length=res.length->(m1 d s j res cs hs).map (fun q=>(q.1,q.2.1))=j4 d s j res
 |j,[],cs,hs,J,R=>by cases cs<;>cases hs<;>simp[m1,j4]
 |j,t::r,[],hs,J,R=>by cases J
 |j,t::r,c::cs,[],J,R=>by cases R
 |j,t::r,c::cs,h::hs,J,R=>by
  have aZ:=OM (d:=d) (s:=s) (j:=j+1) (res:=r) (cs:=cs) (hs:=hs) (by simpa using J) (by simpa using R);simp only[m1,j4];cases t.1.pure
  ·simp only[cond_false,ff,aZ]
  ·simp only[cond_true,aZ]
section
variable {C:eb} {st:bj} {b3:Array Value} {w w':World} {I I' B':Nat->Prop} {rt:Nat->List Value} {fp:Nat->List Nat}
theorem adi (aq:cx C st b3 w I rt fp) {S:List Nat}:∀{avs:List ax} {vs:List Value} {args:List hK} {gs:List (List Nat)},jt (cJ (bP I C.B) w st.h rt fp) avs vs->si st.h S avs args->oV (Fj I' B' w') args vs gs->∀q∈gT rt avs args gs,br (bP I' C.B) w' q.2.1.1 q.2.2.1 q.2.1.2 q.2.2.2/\q.2.2.1=rt q.1/\q.1∈fG avs args/\∃t,aD st.h q.1=some t/\q.2.1.1=t.1
 |[],vs,args,gs,aV,J,R,q,aj=>by cases args<;>cases gs<;>cases aj
 |x::xs,vs,[],gs,aV,J,R,q,aj=>by cases x<;>exact J.elim
 |x::xs,[],b::bs,gs,aV,J,R,q,aj=>aV.elim
 |x::xs,v::vs,b::bs,[],aV,J,R,q,aj=>R.elim
 |av::xs,v::vs,b::bs,g::gs,aV,J,R,q,aj=>by
  obtain⟨ab,aog⟩:=aV;obtain⟨o3,aoi⟩:=J;obtain⟨yo,aoj⟩:=R;have aZ:=adi aq (S:=S) (avs:=xs) (args:=bs) (gs:=gs) aog aoi aoj;have dT:q∈gT rt xs bs gs->br (bP I' C.B) w' q.2.1.1 q.2.2.1 q.2.1.2 q.2.2.2/\q.2.2.1=rt q.1/\q.1∈fG (av::xs) (b::bs)/\∃t,aD st.h q.1=some t/\q.2.1.1=t.1:=by
   intro aj;obtain⟨aN,aM,bb,bH⟩:=aZ q aj;refine⟨aN,aM,?_,bH⟩;cases av with
   |ref id p=>cases p<;>cases b<;>simp only[fG]<;>first|exact gC _ bb|exact bb
   |view id p lo hi=>cases p<;>cases b<;>simp only[fG]<;>first|exact gC _ bb|exact bb
   |_=>cases b<;>exact bb
  cases av with
  |ref id p=>
   cases p with
   |cons s p=>exact dT (by cases b<;>exact aj)
   |nil=>
    cases b with
    |v t=>exact dT aj
    |o t=>exact dT aj
    |c n cp=>exact dT aj
    |n=>exact dT aj
    |s f l=>exact dT aj
    |w σ xs lo hi aW=>exact dT aj
    |m t y=>
     simp only[gT,d4] at aj;rcases aj with rfl|aj
     ·obtain⟨bk,bD,cm⟩:=o3;obtain⟨cs,e,hr⟩:=yo;cases ab with|ref ah ag=>
      rw[bk] at ah;cases ah;obtain⟨rfl,rfl,rfl⟩:=bv.f6.1 ag;have:=axw cm (aq.tree id _ bk).1.len hr.len e;subst this;exact⟨hr.fq bD,rfl,by simp[fG],t,bk,rfl⟩
     ·exact dT aj
  |view id p lo hi=>
   cases p with
   |cons s p=>exact dT (by cases b<;>exact aj)
   |nil=>
    cases b with
    |w σ xs l e aW=>
     simp only[gT,d4] at aj;rcases aj with rfl|aj
     ·obtain⟨bk,⟨rfl,rfl⟩,bD,cm⟩:=o3;obtain⟨b,o,cap,e,ai,hr⟩:=yo;cases ab with
      |oE=>omega
      |view ah ag aN aM bb=>
      rename_i t' τ' loc c3 bR wF fW;rw[bk] at ah;cases ah;obtain⟨aA,aX,bY⟩:=bv.f6.1 ag;simp only[au.osl.injEq] at aA;subst aA;obtain⟨b9,c',bH,_⟩:=(aq.tree id _ bk).1;have oZ:rt id=[.slice (some ⟨c3,bR,none⟩) wF fW]:=bY;rw[bH] at oZ;simp only[hL,Value.slice.injEq,and_true] at oZ;rw[if_neg (by omega)] at e;simp only[Value.slice.injEq,cS,Addr.mk.injEq,and_true] at e;obtain⟨⟨b2,bo⟩,a5,bw⟩:=e;have:rt id=[.slice (some ⟨b,o,none⟩) xs.length cap]:=(by rw[bH,oZ.1,oZ.2.2,<-b2,show o=bR by omega,show cap=fW by omega]);refine⟨?_,rfl,by simp[fG],_,bk,rfl⟩;show br (bP I' C.B) w' (.osl _) (rt id) aW g;rw[this];exact hr.fq cm
     ·exact dT aj
    |_=>exact dT aj
  |_=>exact dT (by cases b<;>exact aj)
theorem adg {S:List Nat}:∀{as:List ax} {args:List hK} {vs:List Value} {gs:List (List Nat)},si st.h S as args->oV (Fj I' B' w') args vs gs->((gT rt as args gs).map (fun q=>q.2.2.2)).flatten=gs.flatten
 |[],[],vs,gs,J,R=>by cases vs<;>cases gs<;>first|rfl|exact R.elim
 |[],b::bs,vs,gs,J,R=>J.elim
 |a::as,[],vs,gs,J,R=>by cases a<;>exact J.elim
 |a::as,b::bs,[],gs,J,R=>R.elim
 |a::as,b::bs,v::vs,[],J,R=>R.elim
 |a::as,b::bs,v::vs,g::gs,J,R=>by
  have aZ:=adg (as:=as) J.2 R.2;have o3:=J.1;have yo:=R.1;rw[lu,<-aZ];cases b with
  |m t y=>
   cases a with
   |ref id p=>cases p with
    |nil=>simp only[gT,ff,lu]
    |cons=>exact o3.elim
   |_=>exact o3.elim
  |w σ xs lo hi aW=>
   cases a with
   |view id p l e=>cases p with
    |nil=>simp only[gT,ff,lu]
    |cons=>exact o3.elim
   |ref id p=>cases p<;>exact o3.elim
   |_=>exact o3.elim
  |v t=>
   have:g=[]:=yo;subst this;cases a with
   |ref id p=>cases p<;>simp only[gT,hk]
   |view id p l e=>cases p<;>simp only[gT,hk]
   |_=>simp only[gT,hk]
  |o t=>
   have:g=[]:=yo;subst this;cases a with
   |ref id p=>cases p<;>simp only[gT,hk]
   |view id p l e=>cases p<;>simp only[gT,hk]
   |_=>simp only[gT,hk]
  |n=>
   have:g=[]:=yo;subst this;cases a with
   |ref id p=>cases p<;>simp only[gT,hk]
   |view id p l e=>cases p<;>simp only[gT,hk]
   |_=>simp only[gT,hk]
  |s f l=>
   have:g=[]:=yo;subst this;cases a with
   |ref id p=>cases p<;>simp only[gT,hk]
   |view id p l e=>cases p<;>simp only[gT,hk]
   |_=>simp only[gT,hk]
  |c n cp=>
   have:g=[]:=yo;subst this;cases a with
   |ref id p=>cases p<;>simp only[gT,hk]
   |view id p l e=>cases p<;>simp only[gT,hk]
   |_=>simp only[gT,hk]
theorem ad1 {I:Nat->Prop}:∀{res:List a6} {fa:List Value} {hs:List (List Nat)},oV (Ke I w) res fa hs->∃sz:List (List Value),sz.length=res.length/\hs.length=res.length/\fa.length=res.length/\∀(i:Nat) (t:a6) (c:List Value) (h:List Nat) (v:Value),res[i]?=some t->sz[i]?=some c->hs[i]?=some h->fa[i]?=some v->v=cQ t.1 c/\br (bP I (fun _=>False)) w t.1 c t.2 h
 |[],fa,hs,h=>by cases fa<;>cases hs<;>first|exact⟨[],rfl,rfl,rfl,fun i t c h v J=>by simp at J⟩|exact h.elim
 |t::r,[],hs,h=>h.elim
 |t::r,v::fa,[],h=>h.elim
 |t::r,v::fa,f::hs,h=>by
  obtain⟨⟨c,e,hr⟩,R⟩:=h;obtain⟨sz,dp,l2,mZ,ay⟩:=ad1 R;refine⟨c::sz,by simp[dp],by simp[l2],by simp[mZ],fun i t' c' a7 ew aA aX bY e7=>?_⟩;cases i with
  |zero=>simp only[lX,cS] at aA aX bY e7;subst aA;subst aX;subst bY;subst e7;exact⟨e,hr⟩
  |succ i=>exact ay i t' c' a7 ew (by simpa using aA) (by simpa using aX) (by simpa using bY) (by simpa using e7)
theorem ad3 {d:Nat} {s:Bool}:∀{j:Nat} {res:List a6} {cs:List (List Value)} {hs:List (List Nat)},cs.length=res.length->hs.length=res.length->∀q∈m1 d s j res cs hs,∃i:Nat,res[i]?=some q.2.1/\cs[i]?=some q.2.2.1/\hs[i]?=some q.2.2.2
 |j,[],cs,hs,J,R,q,aj=>by cases cs<;>cases hs<;>simp[m1] at aj
 |j,t::r,[],hs,J,R,q,aj=>by cases J
 |j,t::r,c::cs,[],J,R,q,aj=>by cases R
 |j,t::r,c::cs,h::hs,J,R,q,aj=>by
  simp only[m1] at aj;have more:q∈m1 d s (j+1) r cs hs->∃i,(t::r)[i]?=some q.2.1/\(c::cs)[i]?=some q.2.2.1/\(h::hs)[i]?=some q.2.2.2:=fun aj=>(by obtain⟨i,aA,aX,bY⟩:=ad3 (by simpa using J) (by simpa using R) q aj;exact⟨i+1,by rw[vr];exact aA,by rw[vr];exact aX,by rw[vr];exact bY⟩);cases aw:t.1.pure
  ·rw[aw] at aj;simp only[cond_false,d4] at aj;rcases aj with rfl|aj
   ·exact⟨0,rfl,rfl,rfl⟩
   ·exact more aj
  ·rw[aw] at aj;exact more aj
theorem ad2 {d:Nat} {s:Bool}:∀{j:Nat} {res:List a6} {cs:List (List Value)} {hs:List (List Nat)},((m1 d s j res cs hs).map (fun q=>q.2.2.2)).flatten.Sublist hs.flatten
 |j,[],cs,hs=>by simp[m1]
 |j,t::r,[],hs=>by simp[m1]
 |j,t::r,c::cs,[]=>by simp[m1]
 |j,t::r,c::cs,h::hs=>by
  have aZ:=ad2 (d:=d) (s:=s) (j:=j+1) (res:=r) (cs:=cs) (hs:=hs);simp only[m1];cases t.1.pure
  ·simp only[cond_false,ff,lu];exact List.Sublist.append (List.Sublist.refl h) aZ
  ·simp only[cond_true,lu];exact aZ.trans (List.sublist_append_right _ _)
theorem Xa (aq:cx C st b3 w I rt fp) {S:List Nat} (dZ:∀b,C.B b->B' b) (uq:∀id t,aD st.h id=some t->dS id S=false->∀b∈fp id,B' b) {av:ax} {v:Value} (ab:cJ (bP I C.B) w st.h rt fp av v) {t:a6} (aC:zK st.h S av t):∃cs,v=cQ t.1 cs/\br (bP I B') w t.1 cs t.2 []:=by
 cases av with
 |val τ y=>
  have aC:rh τ y t.1 t.2:=aC;cases ab with|val r=>
  exact⟨_,aC.st _,aC.rep dZ r (by simp)⟩
 |dh u=>
  obtain⟨aN,aM⟩:=aC;cases ab;exact⟨_,aM.symm,ud aN⟩
 |ref id p=>
  obtain⟨bE,zx,τ,y,bk,bD,cm⟩:=aC;cases ab with|ref ah ag=>
  rw[bk] at ah;cases ah;obtain⟨rfl,f,hr,_,aH⟩:=aq.mL bk bD ag;exact⟨_,cm.st _,cm.rep dZ hr (fun b aa=>uq id _ bk bE b (aH b aa))⟩
 |_=>exact aC.elim
theorem Xd (aq:cx C st b3 w I rt fp) {S:List Nat} (dZ:∀b,C.B b->B' b) (uq:∀id t,aD st.h id=some t->dS id S=false->∀b∈fp id,B' b):∀{avs:List ax} {vs:List Value} {cp:List a6},jt (cJ (bP I C.B) w st.h rt fp) avs vs->jt (zK st.h S) avs cp->jt (Fp I B' w) cp vs
 |[],[],[],_,_=>trivial
 |[],_::_,_,h,_=>h.elim
 |_::_,[],_,h,_=>h.elim
 |[],_,_::_,_,h=>h.elim
 |_::_,_,[],_,h=>h.elim
 |_::_,_::_,_::_,h,a7=>⟨Xa aq dZ uq h.1 a7.1,Xd aq dZ uq h.2 a7.2⟩
theorem Xf (aq:cx C st b3 w I rt fp) {S:List Nat} (dZ:∀b,C.B b->B' b) (uq:∀id t,aD st.h id=some t->dS id S=false->∀b∈fp id,B' b):∀{avs:List ax} {vs:List Value} {args:List hK},jt (cJ (bP I C.B) w st.h rt fp) avs vs->si st.h S avs args->∃fs,oV (Fi I B' w) args vs fs/\fs.flatten=((fG avs args).map fp).flatten
 |[],vs,args,aV,h=>by cases args with
  |nil=>cases vs with
   |nil=>exact⟨[],trivial,rfl⟩
   |cons=>exact aV.elim
  |cons=>exact h.elim
 |x::xs,vs,[],aV,h=>by cases x<;>exact h.elim
 |x::xs,[],b::bs,aV,h=>aV.elim
 |av::xs,v::vs,b::bs,aV,h=>by
  obtain⟨ab,aV⟩:=aV;obtain⟨aC,aa⟩:=h;obtain⟨fs,J,R⟩:=Xf aq dZ uq aV aa;cases b with
  |v t=>
   have e:fG (av::xs) (.v t::bs)=fG xs bs:=by cases av<;>first|rfl|(rename_i id p;cases p<;>rfl)|(rename_i id p l e;cases p<;>rfl)
   have aC:zK st.h S av t:=(by cases av<;>exact aC);exact⟨[]::fs,⟨⟨rfl,Xa aq dZ uq ab aC⟩,J⟩,by rw[e];simpa using R⟩
  |s f l=>
   have e:fG (av::xs) (.s f l::bs)=fG xs bs:=by cases av<;>first|rfl|(rename_i id p;cases p<;>rfl)|(rename_i id p l e;cases p<;>rfl)
   exact⟨[]::fs,⟨rfl,J⟩,by rw[e];simpa using R⟩
  |n=>
   cases av with
   |dh u=>
    obtain rfl:u=.slice none 0 0:=aC;cases ab;exact⟨[]::fs,⟨⟨rfl,rfl⟩,J⟩,by simpa[fG] using R⟩
   |ref id p=>cases p<;>exact aC.elim
   |_=>exact aC.elim
  |c n cp=>
   cases av with
   |d1 m l=>
    obtain⟨rfl,aC⟩:=aC;cases ab with|d1 ai ay=>
    rename_i gL;refine⟨[]::fs,⟨⟨rfl,gL.toList,rfl,Xd aq dZ uq (Kp (by simpa using ai) (fun i a b J R=>ay i a b J (by simpa using R))) aC⟩,J⟩,by simpa[fG] using R⟩
   |ref id p=>cases p<;>exact aC.elim
   |_=>exact aC.elim
  |w σ xs lo hi aW=>
   cases av with
   |view id p l e=>cases p with
    |nil=>
     obtain⟨bk,⟨rfl,rfl⟩,bD,cm⟩:=aC;cases ab with
     |oE=>omega
     |view ah ag aN aM bb=>
     rename_i t' τ' loc c3 bR wF fW;rw[bk] at ah;cases ah;obtain⟨aA,aX,bY⟩:=bv.f6.1 ag;simp only[au.osl.injEq] at aA;subst aA;have hr:=(aq.tree id _ bk).1;have oZ:rt id=[.slice (some ⟨c3,bR,none⟩) wF fW]:=bY;have md:=hr;obtain⟨b9,c',bH,dv⟩:=md;rw[bH] at oZ;simp only[hL,Value.slice.injEq,and_true] at oZ;have d2:xs.length=wF:=oZ.2.1;refine⟨fp id::fs,⟨⟨c3,bR,fW,?_,⟨bD,by omega,by omega⟩,?_⟩,J⟩,by simp only[fG,ff,lu,R]⟩
     ·rw[if_neg (by omega)]
     ·have:=br.fq (τ:=.osl σ) (B':=B') cm hr;rw[bH,oZ.1,oZ.2.2] at this;exact this
    |cons=>exact aC.elim
   |ref id p=>cases p<;>exact aC.elim
   |_=>exact aC.elim
  |m t y=>
   cases av with
   |ref id p=>cases p with
    |nil=>
     obtain⟨bk,bD,_⟩:=aC;cases ab with|ref ah ag=>
     rw[bk] at ah;cases ah;obtain⟨rfl,rfl,rfl⟩:=bv.f6.1 ag;exact⟨fp id::fs,⟨⟨rt id,rfl,(aq.tree id _ bk).1.fq bD⟩,J⟩,by simp only[fG,ff,lu,R]⟩
    |cons=>exact aC.elim
   |_=>exact aC.elim
  |o t=>
   cases av with
   |ref id p=>cases p with
    |nil=>
     have bk:aD st.h id=some t:=aC;cases ab with|ref ah ag=>
     rw[bk] at ah;cases ah;obtain⟨rfl,rfl,rfl⟩:=bv.f6.1 ag;refine⟨fp id::fs,⟨⟨rt id,rfl,(aq.tree id _ bk).1.mono (fun m b ak=>⟨?_,df.refl w b⟩) (fun b _=>df.refl w b)⟩,J⟩,by simp only[fG,ff,lu,R]⟩;cases m
     ·exact ak
     ·exact ak.imp (fun h=>h) (dZ b)
    |cons=>exact aC.elim
   |dh u=>
    obtain⟨rfl,τ,rfl⟩:=aC;cases ab;exact⟨[]::fs,⟨⟨[.slice none 0 0],rfl,none,0,rfl,.inl ⟨rfl,rfl,rfl,rfl⟩⟩,J⟩,by simpa[fG] using R⟩
   |_=>exact aC.elim
end
end
section
def qs (d:Nat) (st:bj) (avs:List ax) (args:List hK) (res:List a6):Bool:=
 kF (fG avs args)&&kF ((li avs args++j4 d (jE res) 0 res).map (·.1))&&(j4 d (jE res) 0 res).all fun q=>(aD st.h q.1).isNone
section
variable {E:eV} {C:eb} {st:bj} {a:Act} {w w':World} {I I' B':Nat->Prop} {rt:Nat->List Value} {fp:Nat->List Nat}
theorem abc {rt:Nat->List Value} {S:List Nat} {h:List (Nat×a6)}:∀{as:List ax} {bs:List hK} {gs:List (List Nat)},si h S as bs->gs.length=bs.length->∀id∈pi as bs,∃q∈gT rt as bs gs,q.1=id/\aD h id=some ⟨q.2.1.1,(match aD h id with|some t=>if e:t.1=q.2.1.1 then e▸t.2 else q.2.1.2|none=>q.2.1.2)⟩
 |[],bs,gs,_,_,id,h=>by cases bs<;>cases h
 |a::as,[],gs,J,_,id,h=>by cases a<;>exact J.elim
 |a::as,b::bs,[],_,ai,id,h=>by cases ai
 |a::as,b::bs,g::gs,J,ai,id,h=>by
  have aZ:=abc (rt:=rt) (as:=as) (bs:=bs) (gs:=gs) J.2 (by simpa using ai) id;have o3:=J.1;cases a with
  |ref i p=>cases p with
   |nil=>
    cases b with
    |m t y=>
     simp only[pi,d4] at h;simp only[gT];rcases h with rfl|h
     ·refine⟨_,nk ..,rfl,?_⟩;rw[o3.1];simp
     ·obtain⟨q,aj,e⟩:=aZ h;exact⟨q,gC _ aj,e⟩
    |_=>exact aZ h
   |cons=>cases b<;>exact aZ h
  |view i p l e=>cases p with
   |nil=>
    cases b with
    |w σ xs lo hi aW=>
     simp only[pi,d4] at h;simp only[gT];rcases h with rfl|h
     ·refine⟨_,nk ..,rfl,?_⟩;rw[o3.1];simp
     ·obtain⟨q,aj,e⟩:=aZ h;exact⟨q,gC _ aj,e⟩
    |_=>exact aZ h
   |cons=>cases b<;>exact aZ h
  |_=>cases b<;>exact aZ h
theorem PQ {α aT sh:Type} {cd:α->aT->sh->Prop}:∀{as:List α} {bs:List aT} {cs:List sh},oV cd as bs cs->bs.length=as.length/\cs.length=as.length
 |[],bs,cs,h=>by cases bs<;>cases cs<;>first|exact⟨rfl,rfl⟩|exact h.elim
 |a::as,[],cs,h=>h.elim
 |a::as,b::bs,[],h=>h.elim
 |a::as,b::bs,c::cs,h=>by obtain⟨J,R⟩:=PQ h.2;simp[J,R]
theorem att {L:List (Nat×FD)} (h:((L.map fun q=>q.2.2.2).flatten).Nodup):(∀q∈L,q.2.2.2.Nodup)/\∀i j zh zi,aD L i=some zh->aD L j=some zi->i≠j->∀b∈zh.2.2,b∉zi.2.2:=by
 induction L with
 |nil=>exact⟨by simp,fun i j zh zi h=>by cases h⟩
 |cons x L aZ=>
  obtain⟨k,x⟩:=x;simp only[ff,lu,kL] at h;obtain⟨J,R,ac⟩:=h;obtain⟨i1,i2⟩:=aZ R;refine⟨fun q aj=>?_,fun i j zh zi hi ao dJ b aa=>?_⟩
  ·rcases d4.1 aj with rfl|aj
   ·exact J
   ·exact i1 q aj
  ·rw[dq] at hi ao;have Eb:∀c0 f7,aD L c0=some f7->∀c∈f7.2.2,c∈(L.map fun q=>q.2.2.2).flatten:=fun c0 f7 ae c hc=>lw.2 ⟨_,dz.2 ⟨(c0,f7),If ae,rfl⟩,hc⟩;split at hi
   ·rename_i aA;split at ao
    ·rename_i aX;exact absurd (aA.symm.trans aX) dJ
    ·obtain rfl:=fH hi;intro cZ;exact ac b aa b (Eb j zi ao b cZ) rfl
   ·split at ao
    ·obtain rfl:=fH ao;intro cZ;exact ac b cZ b (Eb i zh hi b aa) rfl
    ·exact i2 i j zh zi hi ao dJ b aa
theorem NT {α:Type}:∀{L:List (Nat×α)},(L.map (·.1)).Nodup->∀{q:Nat×α},q∈L->aD L q.1=some q.2
 |[],_,q,h=>by cases h
 |(k,x)::L,ag,q,h=>by
  simp only[ff,mB] at ag;rw[dq];rcases d4.1 h with rfl|h
  ·rw[if_pos rfl]
  ·rw[if_neg (fun e=>ag.1 (by rw[e];exact dz.2 ⟨q,h,rfl⟩))];exact NT ag.2 h
theorem adY {d:Nat} {s:Bool}:∀{j:Nat} {res:List a6} {i:Nat} {av:ax},(zj d s j res)[i]?=some av->∃t,res[i]?=some t/\av=(bif t.1.pure then .val t.1 t.2 else .ref (w8 d s (j+i)) [])
 |j,[],i,av,h=>by simp[zj] at h
 |j,t::r,i,av,h=>by
  simp only[zj] at h;cases i with
  |zero=>simp only[lX,cS] at h;exact⟨t,rfl,h.symm⟩
  |succ i=>
   obtain⟨t',J,R⟩:=adY (by simpa using h);exact⟨t',by simpa using J,by rw[R,show j+1+i=j+(i+1) by omega]⟩
theorem adZ {d:Nat} {s:Bool}:∀{j:Nat} {res:List a6},(zj d s j res).length=res.length
 |j,[]=>rfl
 |j,t::r=>by simp[zj,adZ]
theorem ad4 {d:Nat} {s:Bool}:∀{j:Nat} {res:List a6} {cs:List (List Value)} {hs:List (List Nat)},cs.length=res.length->hs.length=res.length->∀(i:Nat) t c h,res[i]?=some t->cs[i]?=some c->hs[i]?=some h->t.1.pure=false->(w8 d s (j+i),(t,c,h))∈m1 d s j res cs hs
 |j,[],cs,hs,_,_,i,t,c,h,aA,_,_,_=>by simp at aA
 |j,t::r,[],hs,J,_,_,_,_,_,_,_,_,_=>by cases J
 |j,t::r,c::cs,[],_,R,_,_,_,_,_,_,_,_=>by cases R
 |j,t::r,c::cs,h::hs,J,R,i,t',c',a7,aA,aX,bY,aw=>by
  simp only[m1];cases i with
  |zero=>
   simp only[lX,cS] at aA aX bY;subst aA;subst aX;subst bY;rw[aw];exact nk ..
  |succ i=>
   have:=ad4 (d:=d) (s:=s) (j:=j+1) (res:=r) (cs:=cs) (hs:=hs) (by simpa using J) (by simpa using R) i t' c' a7 (by simpa using aA) (by simpa using aX) (by simpa using bY) aw;rw[show j+1+i=j+(i+1) by omega] at this;cases t.1.pure
   ·exact gC _ this
   ·exact this
end
section
variable {E:eV} {C:eb} {st:bj} {bA:Array Oper} {Q:bj->Prop}
theorem aeY {h:List (Nat×a6)} {S:List Nat}:∀{as:List ax} {bs:List hK},si h S as bs->∀id∈fG as bs,∃t,aD h id=some t
 |[],bs,_,id,bp=>by cases bs<;>cases bp
 |a::as,[],J,id,bp=>by cases a<;>exact J.elim
 |a::as,b::bs,J,id,bp=>by
  have aZ:=aeY (as:=as) (bs:=bs) J.2 id;have o3:=J.1;cases a with
  |ref i p=>cases p with
   |nil=>
    cases b with
    |m t y=>
     simp only[fG,d4] at bp;rcases bp with rfl|bp
     ·exact⟨_,o3.1⟩
     ·exact aZ bp
    |o t=>
     simp only[fG,d4] at bp;rcases bp with rfl|bp
     ·exact⟨_,o3⟩
     ·exact aZ bp
    |_=>exact aZ bp
   |cons=>cases b<;>exact aZ bp
  |view i p l e=>cases p with
   |nil=>
    cases b with
    |w σ xs lo hi aW=>
     simp only[fG,d4] at bp;rcases bp with rfl|bp
     ·exact⟨_,o3.1⟩
     ·exact aZ bp
    |_=>exact aZ bp
   |cons=>cases b<;>exact aZ bp
  |_=>cases b<;>exact aZ bp
theorem T2 {b3:Array Value} {w:World} {I:Nat->Prop} {rt:Nat->List Value} {fp:Nat->List Nat} (aq:cx C st b3 w I rt fp):∀{S:List Nat},(∀id∈S,∃t,aD st.h id=some t)->S.Nodup->((S.map fp).flatten).Nodup
 |[],_,_=>by simp
 |id::S,h,ag=>by rw[mB] at ag;simp only[ff,lu,kL];obtain⟨t,ah⟩:=h id (by simp);refine⟨(aq.tree id t ah).2.1,T2 aq (fun i hi=>h i (by simp[hi])) ag.2,fun b aa c hc e=>?_⟩;subst e;obtain⟨l',J,R⟩:=lw.1 hc;obtain⟨gq,Z2,rfl⟩:=dz.1 J;obtain⟨t',bC⟩:=h gq (by simp[Z2]);exact aq.dis id gq t t' ah bC (fun e=>ag.1 (e▸Z2)) b aa R
def ajP (M:dE->Nat->Prop) (w:World) (d:Nat) (res:List a6) (rtn:Nat->List Value) (v:Value):Prop:=
 ∀(h:List (Nat×a6)) (rt:Nat->List Value) (fp:Nat->List Nat),(∀q∈j4 d (jE res) 0 res,aD h q.1=some q.2/\rt q.1=rtn q.1)->cJ M w h rt fp (Ca d res) v
theorem cx.glob {E:eV} {C:eb} {st:bj} {b3:Array Value} {w:World} {I:Nat->Prop} {rt:Nat->List Value} {fp:Nat->List Nat} (aq:cx C st b3 w I rt fp) (ae:∀b,C.I0 b\/C.B b->b<C.w0.heap.size/\¬C.F0 b) (h:nf E C.I0 C.w0):nf E I w:=
 h.mono aq.i0 fun b aa=>aq.frame b (ae b (.inl aa)).1 (ae b (.inl aa)).2
theorem cx.call {C:eb} {st:bj} {b3:Array Value} {w:World} {I:Nat->Prop} {rt:Nat->List Value} {fp:Nat->List Nat} (aq:cx C st b3 w I rt fp) {d f:Nat} {avs:List ax} {vs:List Value} (DO:jt (cJ (bP I C.B) w st.h rt fp) avs vs) {args:List hK} {res:List a6} (hc:xB E f args res) (aC:si st.h (fG avs args) avs args) (ae:qs d st avs args res=true) (Hy:∀fs:List (List Nat),(∀b∈fs.flatten,∃id t,aD st.h id=some t/\b∈fp id)->Wv w vs fs (tu 0 args)) (nB:nf E I w):Calls E.P f vs.toArray w (fun e w'=>∃I' rtn fpn fa,e=.returned (uY fa)/\qo C st w w' I I' rt fp (fG avs args) (Ei (pi avs args)) (li avs args++j4 d (jE res) 0 res) rtn fpn/\ajP (bP I' C.B) w' d res rtn (uY fa)):=by
 simp only[qs,bW,fM] at ae;obtain⟨⟨nH,gI⟩,Hm⟩:=ae;have nH:=kF.ok nH;have gI:=kF.ok gI
 let S:=fG avs args
 let B':Nat->Prop:=fun b=>C.B b\/∃id t,aD st.h id=some t/\dS id S=false/\b∈fp id
 have aol:∀b,C.B b->B' b:=fun b aa=>.inl aa;have uq:∀id t,aD st.h id=some t->dS id S=false->∀b∈fp id,B' b:=fun id t ah ak b aa=>.inr ⟨id,t,ah,ak,aa⟩;obtain⟨fs,DT,wi⟩:=Xf aq (B':=B') (S:=S) aol uq (args:=args) DO aC;have HB:∀id∈S,∃t,aD st.h id=some t:=fun id bp=>aeY aC id bp;have Hj:∀b∈fs.flatten,∃id∈S,∃t,aD st.h id=some t/\b∈fp id:=(by intro b aa;rw[wi] at aa;obtain⟨l',J,R⟩:=lw.1 aa;obtain⟨id,bp,rfl⟩:=dz.1 J;obtain⟨t,ah⟩:=HB id bp;exact⟨id,bp,t,ah,R⟩);have apg:fs.flatten.Nodup:=(by rw[wi];exact T2 aq HB nH);have Hd:=hc w I B' vs fs (fun b aa=>by
  rcases aa with aa|aa|⟨id,t,ah,_,aa⟩
  ·exact aq.ib b (.inl aa)
  ·exact aq.ib b (.inr aa)
  ·exact((aq.tree id t ah).2.2 b aa).2.2.1) DT apg (fun b aa=>by
  obtain⟨id,bp,t,ah,hZ⟩:=Hj b aa;obtain⟨aN,aM,bb,bH⟩:=(aq.tree id t ah).2.2 b hZ;refine⟨aN,?_,bb⟩;rintro(h|⟨gq,t',bC,ak,cZ⟩)
  ·exact aM h
  ·have cX:id≠gq:=fun e=>(by rw[<-e,fd.2 bp] at ak;cases ak);exact aq.dis id gq t t' ah bC cX b hZ cZ) (Hy fs fun b aa=>by
  obtain⟨id,_,t,ah,hZ⟩:=Hj b aa;exact⟨id,t,ah,hZ⟩) nB
 refine Hd.mono ?_;rintro e w' ⟨I',gs,hs,fa,rfl,aw⟩;obtain⟨sz,Ia,Ib,Ic,uB⟩:=ad1 aw.res;have M3:=(PQ aw.args).2;have ZC:si st.h S avs args:=aC
 let L:List (Nat×FD):=gT rt avs args gs++m1 d (jE res) 0 res sz hs
 have Zs:L.map (fun q=>(q.1,q.2.1))=li avs args++j4 d (jE res) 0 res:=(by simp only[L,jm];rw[adh M3,OM Ia Ib]);have Zp:(L.map (·.1)).Nodup:=(by have:L.map (·.1)=(L.map (fun q=>(q.1,q.2.1))).map (·.1):=(by simp[xK]);rw[this,Zs];exact gI);have apd:((gT rt avs args gs).map (fun q=>q.2.2.2)).flatten=gs.flatten:=adg ZC aw.args;have h0:((m1 d (jE res) 0 res sz hs).map (fun q=>q.2.2.2)).flatten.Sublist hs.flatten:=ad2;have Zo:((L.map fun q=>q.2.2.2).flatten).Sublist (gs.flatten++hs.flatten):=(by simp only[L,jm,vq];rw[apd];exact List.Sublist.append (List.Sublist.refl _) h0);obtain⟨aow,aov⟩:=att (aw.EC.sublist Zo);have Ss:∀q∈gT rt avs args gs,br (bP I' C.B) w' q.2.1.1 q.2.2.1 q.2.1.2 q.2.2.2/\q.2.2.1=rt q.1/\q.1∈S/\∃t,aD st.h q.1=some t/\q.2.1.1=t.1:=(by exact adi aq (S:=S) (args:=args) (gs:=gs) DO aC aw.args);have aox:∀q∈L,br (bP I' C.B) w' q.2.1.1 q.2.2.1 q.2.1.2 q.2.2.2/\(q.1∈S\/aD st.h q.1=none):=by
  intro q aj;rcases fg.1 aj with aj|aj
  ·obtain⟨aN,_,bb,_⟩:=Ss q aj;exact⟨aN,.inl bb⟩
  ·obtain⟨k,aA,aX,bY⟩:=ad3 Ia Ib q aj;have qB:k<fa.length:=(by rw[Ic];exact(fu.1 aA).1);obtain⟨_,hr⟩:=uB k _ _ _ fa[k] aA aX bY (by simp);refine⟨hr.mono (fun m b ak=>⟨?_,df.refl _ _⟩) (fun b _=>df.refl _ _),.inr ?_⟩
   ·cases m
    ·exact ak
    ·exact ak.elim .inl (fun h=>h.elim)
   ·have ak:(q.1,q.2.1)∈j4 d (jE res) 0 res:=by
     rw[<-OM (d:=d) (s:=jE res) (j:=0) Ia Ib];exact dz.2 ⟨q,aj,rfl⟩
    exact Option.isNone_iff_eq_none.1 (Hm _ ak)
 have aou:∀q∈L,∀b∈q.2.2.2,b∈gs.flatten++hs.flatten:=fun q aj b aa=>Zo.subset (lw.2 ⟨_,dz.2 ⟨q,aj,rfl⟩,aa⟩);have ux:∀k,aD (li avs args++j4 d (jE res) 0 res) k=(aD L k).map (·.1):=fun k=>by rw[<-Zs];exact abz (fun q:FD=>q.1) L k
 let rtn:Nat->List Value:=fun k=>match aD L k with|some q=>q.2.1|none=>[]
 let fpn:Nat->List Nat:=fun k=>match aD L k with|some q=>q.2.2|none=>[]
 have aR:qo C st w w' I I' rt fp S (Ei (pi avs args)) (li avs args++j4 d (jE res) 0 res) rtn fpn:=
  ⟨aw.size,aw.os,aw.tape,aw.output,fun b aa bE=>aw.heap b aa (fun aH=>by obtain⟨id,bp,t,ah,hZ⟩:=Hj b aH;exact bE id bp t ah hZ),aw.evo,aw.i,(fun b aa=>by
    rcases aw.i2 b aa with h|⟨J,R|R⟩
    ·exact .inl h
    ·exact .inr ⟨J,.inl R⟩
    ·exact .inr ⟨J,.inr (Hj b R)⟩),
   (fun id t bp=>by
    rw[ux] at bp;cases e4:aD L id with
    |none=>rw[e4] at bp;cases bp
    |some q=>
     rw[e4] at bp;obtain rfl:q.1=t:=fH bp;have ak:=If e4;obtain⟨J,R⟩:=aox _ ak;refine⟨R,by simp only[rtn,fpn,e4];exact J,by simp only[fpn,e4];exact aow _ ak,fun b aa=>?_⟩;simp only[fpn,e4] at aa;obtain⟨aN,aM,bb,bH⟩:=aw.Xu b (aou _ ak b aa);exact⟨aN,bb,bH.imp (fun h=>h) (Hj b)⟩),
   (fun i j t u hi ao dJ b aa=>by
    rw[ux] at hi ao;cases RJ:aD L i with
    |none=>rw[RJ] at hi;cases hi
    |some zh=>
     cases RK:aD L j with
     |none=>rw[RK] at ao;cases ao
     |some zi=>
      simp only[fpn,RJ] at aa;simp only[fpn,RK];exact aov i j zh zi RJ RK dJ b aa),
   (fun ek DS t ah=>by
    obtain⟨id,bp,rfl⟩:=dz.1 DS;obtain⟨q,aj,e,_⟩:=abc (rt:=rt) ZC M3 id bp;subst e;have ak:q∈L:=sl _ aj;have ai:=NT Zp ak;obtain⟨_,R,_,t',ac,aL⟩:=Ss q aj;rw[ah] at ac;obtain rfl:=fH ac;exact⟨q.2.1,by rw[ux,ai];rfl,aL,by simp only[rtn,ai];exact R,⟨t.1,by cases t.1<;>rfl⟩,fun q _ _ _ ae=>by rw[NM] at ae;cases ae⟩),
   (fun ek DS t ah q _ _ _ _ _ aP=>by
    obtain⟨id,bp,rfl⟩:=dz.1 DS;rw[AN] at aP;cases aP)⟩
 refine⟨I',rtn,fpn,fa,rfl,aR,fun J axZ anK ay=>?_⟩;have one:∀(k:Nat) (t:a6) (v:Value),res[k]?=some t->fa[k]?=some v->cJ (bP I' C.B) w' J axZ anK (bif t.1.pure then .val t.1 t.2 else .ref (w8 d (jE res) (0+k)) []) v:=by
  intro k t v aA aX;have qB:k<res.length:=(fu.1 aA).1;obtain⟨bY,hr⟩:=uB k t sz[k] hs[k] v aA (by simp) (by simp) aX;subst bY;cases aah:t.1.pure with
  |true=>
   simp only[cond_true];have:=hr.pure aah;rw[this] at hr;refine .val (hr.mono (fun m b ak=>⟨?_,df.refl _ _⟩) (by simp));cases m
   ·exact ak
   ·exact ak.elim .inl (fun h=>h.elim)
  |false=>
   simp only[cond_false];have jz:=ad4 (d:=d) (s:=jE res) (j:=0) Ia Ib k t sz[k] hs[k] aA (by simp) (by simp) aah;have ak:(w8 d (jE res) (0+k),(t,sz[k],hs[k]))∈L:=pI _ jz;have sW:(w8 d (jE res) (0+k),t)∈j4 d (jE res) 0 res:=(by rw[<-OM (d:=d) (s:=jE res) (j:=0) Ia Ib];exact dz.2 ⟨_,jz,rfl⟩);obtain⟨aN,aM⟩:=ay _ sW;refine .ref (t:=t) (loc:=none) aN ?_;have e7:rtn (w8 d (jE res) (0+k))=sz[k]:=(by simp only[rtn,NT Zp ak]);rw[aM,e7];exact bv.here
 cases yE:res with
 |nil=>
  have:fa=[]:=qi (by rw[Ic,yE];rfl);subst this;exact .ei (vs:=#[]) rfl (fun i a v h=>by simp[zj] at h)
 |cons t r=>
  cases r with
  |nil=>
   obtain⟨v,rfl⟩:∃v,fa=[v]:=CR.1 (by rw[Ic,yE];rfl);have:=one 0 t v (by rw[yE];rfl) rfl;rw[yE] at this;exact this
  |cons t2 r=>
   have Hx:uY fa=.tuple fa.toArray:=by
    have:fa.length=(t::t2::r).length:=by rw[Ic,yE]
    match fa,this with
    |v1::gz::aBL,_=>rfl
   rw[Hx];refine .ei (by simp[adZ,Ic,yE]) (fun i av v J R=>?_);obtain⟨t',aA,aX⟩:=adY J;have:=one i t' v (by rw[yE];exact aA) (by simpa using R);rw[yE] at this;rw[aX];exact this
theorem ad5 {d:Nat} {s:Bool} {res:List a6} {l:List (Nat×a6)} (ag:((l++j4 d s 0 res).map (·.1)).Nodup):∀q∈j4 d s 0 res,aD (l++j4 d s 0 res) q.1=some q.2:=
 fun q aj=>NT ag (pI _ aj)
theorem d9.call {Q:bj->Prop} {d f:Nat} {o:Oper} {x:Operand} {l:List ax} {xs argTypes:Array _} (b5:o.op=.call {callee:=.value x,args:=xs,argTypes:=argTypes}) (Bu:bu st.g x=.d1 f l) (aP:o.dst=some d) (dc:C.ok d) (pT:∀(vs:Array Value) (w:World),(callFunc f vs).run E.P w=.ok (.enter f vs) w) {args:List hK} {res:List a6} (hc:xB E f args res) (Hy:tu 0 args=none) (RE:∀b,C.I0 b\/C.B b->b<C.w0.heap.size/\¬C.F0 b) (RF:nf E C.I0 C.w0) (aC:si st.h (fG (xs.toList.map (bu st.g)++l) args) (xs.toList.map (bu st.g)++l) args) (ae:qs d st (xs.toList.map (bu st.g)++l) args res=true) (h:Q (ak3 d st (xs.toList.map (bu st.g)++l) args res)):d9 E C o st Q:=by
 rintro a w ⟨I,rt,fp,aq⟩ next X et
 obtain⟨gL,SJ,RA⟩:∃gL:Array Value,a.eval x=.func (.func f) #[] gL/\jt (cJ (bP I C.B) w st.h rt fp) l gL.toList:=by
  have ab:=aq.bu x;rw[Bu] at ab;generalize hv:a.eval x=v at ab;cases ab with|d1 ai ay=>
  exact⟨_,rfl,Kp (by simpa using ai) (fun i a b J R=>ay i a b J (by simpa using R))⟩
 have DO:jt (cJ (bP I C.B) w st.h rt fp) (xs.toList.map (bu st.g)++l) (xs.toList.map a.eval++gL.toList):=PO (PP (fun x=>aq.bu x) _) RA;have Hd:=aq.call DO hc aC ae (fun _ _=>by rw[Hy];trivial) (aq.glob RE RF);generalize aBd:xs.toList.map (bu st.g)++l=avs at*;have eP:(execOp a.eval o).run E.P w=.ok (.enter f (xs.toList.map a.eval++gL.toList).toArray) w:=(by have aA:xs.map a.eval=(xs.toList.map a.eval).toArray:=(by rw[<-Array.toList_map]);have bY:(xs.toList.map a.eval++gL.toList).toArray=(xs.toList.map a.eval).toArray++gL:=(by simp);rw[bY];simp only[execOp,b5,resolve,aA,Sem.run_bind,SJ,Deferred.ofValue,Sem.run_pure,Result.andThen_ok,invoke,Array.empty_append,Array.append_empty];exact pT _ _);unfold Oper.wp;rw[eP];show Calls E.P f _ w _;refine Hd.mono ?_;rintro e w' ⟨I',rtn,fpn,fa,rfl,aR,jB⟩;show next (a.put o.dst (uY fa)) w'
 rw[aP];have gI:=ae;simp only[qs,bW] at gI;have ag:=kF.ok gI.1.2;refine et _ _ _ h rfl ⟨I',_,_,(aq.fO aR).put dc (av:=Ca d res) (jB _ _ _ (fun q aj=>?_))⟩;have:=ad5 ag q aj;exact⟨by rw[lL,this];rfl,by simp only[en,this]⟩
end
end
end Go.mz
end
