/-
  Parts of the proof: Pm42, Pm43, Pm44, Pm45, Pm46, Pm47, Pm48, Pm49, Pm50: the framework (Fw), pure forms (Dn), plain laws (Pl, Th), calls of functions (Ok).
-/
import Derived.Test.YtkhcdgkdpjahpaaGreatDoorB62b78328

set_option linter.all false
set_option maxHeartbeats 1000000
noncomputable section
namespace Go.h2
variable{a c g:Nat}{b:Nat->Nat->Nat->Int}{d e:Nat->Nat->Bool}{h:Nat->Nat}{i:Nat->bW}
section
def dL (a:Nat->Int):ad4->Int
 |[]=>0
 |c::b=>a c+dL a b
def CB (a:Nat->Int):∀d b,dL a (d++b)=dL a d+dL a b
 |[],b=>by show dL a b=0+dL a b;omega
 |c::d,b=>by show a c+dL a (d++b)=a c+dL a d+dL a b;rw[CB a d b];omega
def yE {b d:Nat->Int}:∀{a:ad4},(∀c∈a,b c=d c)->dL b a=dL d a
 |[],_=>rfl
 |c::a,e=>by show b c+dL b a=d c+dL d a;rw[e c ac,yE λg f=>e g (by simp[f])]
def K5 {f:Nat->Int} {p:Nat->Bool}:∀{L:ad4},(∀c∈L,p c=false->f c=0)->dL f (L.filter p)=dL f L
 |[],_=>rfl
 |c::L,b=>by
  have d:=K5 (f:=f) (p:=p) (L:=L) λg e=>b g (by simp[e]);by_cases a:p c=true
  ·rw[pw a];show f c+dL f _=f c+dL f L;rw[d]
  rw[pv a,d];show _=f c+dL f L;rw[b c ac (by simpa using a)];omega
def ml:Nat->Nat
 |0=>0
 |t+1=>ml t+(ml t+5)
def KU {t:Nat} (a:t<=5):ml t<=155:=by have:t=0\/t=1\/t=2\/t=3\/t=4\/t=5:=U;rcases this with rfl|rfl|rfl|rfl|rfl|rfl<;>decide
def F4 {f:Nat->Int} {p:Nat->Bool} {B:Nat}:∀{t},(∀a,a<t->p a=true->(f a).natAbs<=(ml a+5)*B)->(dL f ((List.range t).filter p)).natAbs<=ml t*B
 |0,_=>by show(0:Int).natAbs<=0*B;rw[mJ];exact a2 _
 |t+1,c=>by
  have g:=F4 (f:=f) (p:=p) (B:=B) (t:=t) λa e=>c a U;rw[iP,jc,CB];show(_:Int).natAbs<=(ml t+(ml t+5))*B;rw[eO];by_cases b:p t=true
  ·rw[pw b,px];have d:=c t U b;show(dL f ((List.range t).filter p)+(f t+0)).natAbs<=_;omega
  rw[pv b,px];show(dL f ((List.range t).filter p)+0).natAbs<=_;omega
def Y4 {c:Nat->Int} {n:Nat} (h:a<n) (d:∀b,b<n->b≠a->c b=0):fi c n=c a:=by
 induction n with
 |zero=>omega
 |succ n g=>
  rw[fi];rcases bg a n with e|e
  ·rw[g e λb f=>d b U,d n U U];omega
  obtain rfl:a=n:=U;rw[Dv λb f=>d b U U];omega
def gV (l:List bW) (t:Nat):bW:=((aO l t:Int),(aO l (t+1):Int),dT l (t:Int),fH l t,())
def eK (l:List bW) (cv:Nat->Nat->Nat->Int) (b c a:Nat):Int:=open Classical in if kj l a b/\kj l a c then cv a b c else 0
def oJ (l:List bW) (cv:Nat->Nat->Nat->Int) (a b:Nat):Int:=cv a (bw l a (bf l a+b %(aS l a-bf l a))) (bw l a (bf l a+b/(aS l a-bf l a)))
def jG (l:List bW) (cv:Nat->Nat->Nat->Int) (a:Nat):e6:=fR (aS l a-bf l a) (oJ l cv a)
def en (l:List bW) (t b:Nat):ad4:=(List.range t).filter λa=>decide (fH l a=(b:Int))
def hN (l:List bW) (t b:Nat):Nat:=open Classical in if h:∃a,a<aS l t/\bw l t a=b then Classical.choose h else 0
def G3 {n:Nat} {l:List bW} {t:Nat} (c:iM n l t) (d:(a:Int)∈dT l (t:Int)):hN l t a<aS l t/\bw l t (hN l t a)=a:=by have b:=c.pos d;unfold hN;rw[dif_pos b];exact Classical.choose_spec b
theorem iM.inj {n:Nat} {l:List bW} {t:Nat} (d:iM n l t) (e:a<aS l t) (f:c<aS l t) (g:bw l t a=bw l t c):a=c:=by
 rcases kX a c with b|b|b
 ·have:=d.ms a c b f;omega
 ·exact b
 have:=d.ms c a b e;omega
def Rd {d:Nat->Int} (h:a<c):gy d g c (a+1)=gy d g c a:=by
 funext t;have:hF g c (a+1) t↔hF g c a t:=by
  unfold hF kn nS;constructor
  ·rintro(b|⟨ax,e⟩)
   ·exact .inl b
   omega
  rintro(b|⟨ax,e⟩)
  ·exact .inl b
  exact .inr ⟨ax,U⟩
 unfold gy;by_cases b:hF g c a t
 ·rw[ai b,ai (this.2 b)]
 rw[ah b,ah (λf=>b (this.1 f))]
section
variable {A:Nat->Nat->adZ} {n:Nat} {l:List bW} {cv:Nat->Nat->Nat->Int} {t:Nat}
def mO (A:Nat->Nat->adZ) (l:List bW) (t a:Nat):Int:=if kn (aS l t) a<bf l t then(A (bw l t (a %aS l t)) (bw l t (a/aS l t))).getD 0 else 0
def iS (A:Nat->Nat->adZ) (l:List bW) (cv:Nat->Nat->Nat->Int) (t:Nat) (b:ad4) (a:Nat):Int:=mO A l t a+dL (eK l cv (bw l t (a %aS l t)) (bw l t (a/aS l t))) b
def Qs (q:iM n l t) (p:iM n l a) (O:∀H,kj l a H->(H:Int)∈dT l (t:Int)) (B:Nat->Int) (G:c<aS l t*aS l t):h4 (aS l a-bf l a) (aS l t) (λe=>hN l t (bw l a (bf l a+e))) B (oJ l cv a) ((aS l a-bf l a)*(aS l a-bf l a)) c=B c+eK l cv (bw l t (c %aS l t)) (bw l t (c/aS l t)) a:=by
 classical
 have L:0<aS l t:=by
  rcases gk (aS l t) with d|d
  ·rw[d,mJ] at G;omega
  exact d
 have X:=ot c L;have Y:c/aS l t<aS l t:=uR G;have D:∀e,e<aS l a-bf l a->hN l t (bw l a (bf l a+e))<aS l t/\bw l t (hN l t (bw l a (bf l a+e)))=bw l a (bf l a+e):=λe ab=>
  G3 q (O _ ⟨bf l a+e,U,U,rfl⟩)
 unfold h4;congr 1;have s:∀b,b<(aS l a-bf l a)*(aS l a-bf l a)->(uv (aS l a-bf l a) (aS l t) (λe=>hN l t (bw l a (bf l a+e))) b=c↔bw l a (bf l a+b %(aS l a-bf l a))=bw l t (c %aS l t)/\bw l a (bf l a+b/(aS l a-bf l a))=bw l t (c/aS l t)):=λb f=>by
  have h:0<aS l a-bf l a:=by
   rcases gk (aS l a-bf l a) with d|d
   ·rw[d,mJ] at f;omega
   exact d
  obtain⟨y,z⟩:=D _ (Nat.mod_lt b h);obtain⟨I,A⟩:=D _ (Nat.div_lt_of_lt_mul f);unfold uv;dsimp only;obtain⟨i,k⟩:=k3 (n:=aS l t) (j:=hN l t (bw l a (bf l a+b/(aS l a-bf l a)))) y;constructor
  ·rintro rfl;rw[i,k,z,A];exact⟨rfl,rfl⟩
  rintro⟨al,m⟩;have C:=q.inj y X (z.trans al);have f2:=q.inj I Y (A.trans m);rw[C,f2];have:=l1 c (aS l t);rw[iB] at this;exact this
 unfold eK;by_cases d:kj l a (bw l t (c %aS l t))/\kj l a (bw l t (c/aS l t))
 ·rw[ai d];obtain⟨⟨e,i1,P,u⟩,⟨g,ad,Q,v⟩⟩:=d;have E:e-bf l a<aS l a-bf l a:=U;have M:g-bf l a<aS l a-bf l a:=U;obtain⟨i,k⟩:=k3 (n:=aS l a-bf l a) (j:=g-bf l a) E;have F:=oF M E;have al:bf l a+(e-bf l a)=e:=U;have m:bf l a+(g-bf l a)=g:=U;have R:=(s _ F).2 (by rw[i,k,al,m];exact⟨u,v⟩);rw[Y4 F]
  ·rw[ai R];unfold oJ;rw[i,k,al,m,u,v]
  intro b f N;rw[ah];intro o;obtain⟨w,x⟩:=(s b f).1 o;have h:0<aS l a-bf l a:=U;have S:=ot b h;have T:b/(aS l a-bf l a)<aS l a-bf l a:=uR f;have C:=p.inj (U:bf l a+b %(aS l a-bf l a)<aS l a) P (w.trans u.symm);have f2:=p.inj (U:bf l a+b/(aS l a-bf l a)<aS l a) Q (x.trans v.symm);have r:=l1 b (aS l a-bf l a);rw[iB] at r;have J:b %(aS l a-bf l a)=e-bf l a:=U;have K:b/(aS l a-bf l a)=g-bf l a:=U;rw[J,K] at r;exact N r.symm
 rw[ah d];refine Dv λb f=>?_;rw[ah];intro o;obtain⟨w,x⟩:=(s b f).1 o;have h:0<aS l a-bf l a:=by
  rcases gk (aS l a-bf l a) with d|d
  ·rw[d,mJ] at f;omega
  exact d
 have S:=ot b h;have T:b/(aS l a-bf l a)<aS l a-bf l a:=uR f;have Z:=p.mr;generalize b %(aS l a-bf l a)=V at*;generalize b/(aS l a-bf l a)=W at*;exact d ⟨⟨bf l a+V,U,U,w⟩,⟨bf l a+W,U,U,x⟩⟩
def Lb {f:Nat->Nat} {a:Nat} (b:∀i,i+1<a->f i<f (i+1)):∀i,i<a->i<=f i
 |0,_=>bE _
 |i+1,c=>by have:=Lb b i U;have:=b i c;omega
def SH {h:ad5} {E:List bD} {V:List g5} (ft:n<=5) (d1:iQ n h E V) {G0:adU} (o:iM n l t) (W:∀e c,h0 1 (be E h e c)) {L:ad4} (Y:∀a∈L,iM n l a/\(∀m,kj l a m->(m:Int)∈dT l (t:Int))/\∀m r,(cv a m r).natAbs<=160*dS) (f7:L.length<=5):AV (some ((n:Int),(G0,()),V,()),gV l t,L.map (gV l),L.map (jG l cv),())=some (fR (aS l t) (iS (be E h) l cv t L),0,()):=by
 classical
 have G:aS l t<=5:=Nat.le_trans o.sD ft;have gt:=qx G;have go:=o.own;have f9:=o.sS;have gl:=o.mr;have fp:ay (gV l t).2.2.1=(aS l t:Int):=a1 _;unfold AV;dsimp only;rw[fp,HU G];refine aq (fU U) ?_;refine ae.eq_iff.1 ?_;generalize a4:(((0:Int),(0:Int),[],()):e6)=v;refine ae.aU (P:=λc=>c=(v,fR (aS l t) (mO (be E h) l t),())) ?_ ?_
 ·have el:(gV l t).1=(aO l t:Int):=rfl;have fs:(gV l t).2.1=(aO l (t+1):Int):=rfl;rw[el,fs];refine ae.steps (bf l t) (λc d=>d=(((aO l t+c:Nat):Int),v,((aS l t:Int),(aS l t:Int),aw (aS l t*aS l t) (gy (λd=>(be E h (bw l t (d %aS l t)) (bw l t (d/aS l t))).getD 0) (aS l t) c 0),()),())) ?_ ?_ ?_
  ·rw[gU];have:(aw (aS l t*aS l t) λ_=>lH)=aw (aS l t*aS l t) (gy (λd=>(be E h (bw l t (d %aS l t)) (bw l t (d/aS l t))).getD 0) (aS l t) 0 0):=bI λd _=>by
    unfold gy;rw[ah (by unfold hF;omega)]
   rw[<-this];rfl
  ·rintro c _ av rfl;dsimp only;rw[bo (aB (U:((aO l t+c:Nat):Int)<(aO l (t+1):Int))),bt U];refine ae.aU (P:=λT=>T=(v,((aS l t:Int),(aS l t:Int),aw (aS l t*aS l t) (gy (λd=>(be E h (bw l t (d %aS l t)) (bw l t (d/aS l t))).getD 0) (aS l t) (c+1) 0),()),())) ?_ (by rintro _ rfl;exact ae.ag.2 rfl);refine ae.steps (aS l t) (λe d=>d=((e:Int),v,((aS l t:Int),(aS l t:Int),aw (aS l t*aS l t) (gy (λd=>(be E h (bw l t (d %aS l t)) (bw l t (d/aS l t))).getD 0) (aS l t) c e),()),())) rfl ?_ ?_
   ·rintro e _ u rfl;dsimp only;rw[bo (aB (U:(e:Int)<(aS l t:Int))),bt U];refine ae.aU (P:=λT=>T=(v,((aS l t:Int),(aS l t:Int),aw (aS l t*aS l t) (gy (λd=>(be E h (bw l t (d %aS l t)) (bw l t (d/aS l t))).getD 0) (aS l t) c (e+1)),()),())) ?_ (by rintro _ rfl;exact ae.ag.2 rfl);refine ae.bs (y:=((bw l t e:Nat):Int)) (eC (o.get e u)) ?_;have S:=o.ro c av;have ad:bw l t e>=aO l t+c↔c<=e:=by
     constructor
     ·intro F;rcases bg e c with p|p
      ·have:=o.ms e c p U;omega
      exact p
     intro F;rcases Nat.eq_or_lt_of_le F with p|p
     ·rw[<-p,S];exact a2 _
     have:=o.ms c e p u;omega
    by_cases R:c<=e
    ·have:=ad.2 R;rw[bo (aB (U:((bw l t e:Nat):Int)>=((aO l t+c:Nat):Int)))];refine ae.bs (N1 d1 (o.wo e u) (U:aO l t+c<n)) ?_;dsimp only;have f5:ar (((aO l t+c:Nat):Int)-(aO l t:Int))=(c:Int):=(by rw[(U:((aO l t+c:Nat):Int)-(aO l t:Int)=(c:Int)),bm U U]);rw[f5,pj G (U:c<aS l t) u];have ap:=oF (U:c<aS l t) u;have H:=oF u (U:c<aS l t);refine ae.bs (dd (by rw[bk];exact ap)) ?_;rw[dn ap];refine ae.bs rfl ?_;dsimp only;have f6:ar (ar (ar ((e:Int)*(aS l t:Int))+((aO l t+c:Nat):Int))-(aO l t:Int))=((e*aS l t+c:Nat):Int):=by
      have M:(e:Int)*(aS l t:Int)=((e*aS l t:Nat):Int):=(by rw[ja]);rw[M];generalize e*aS l t=q at*;generalize aS l t*aS l t=gv at*;rw[bm (x:=(q:Int)) U U,bm (x:=(q:Int)+((aO l t+c:Nat):Int)) U U,bm U U];omega
     rw[f6];refine ae.bs (dd (by rw[nv,bk];exact H)) ?_;obtain⟨bB,D,_⟩:=W (bw l t e) (aO l t+c);rw[D];rw[ix (a9 (show e*aS l t+c<((aw (aS l t*aS l t) (gy (λd=>(be E h (bw l t (d %aS l t)) (bw l t (d/aS l t))).getD 0) (aS l t) c e)).set (c*aS l t+e) (a8 (some bB))).length by rw[nv,bk];exact H))];obtain⟨ce,ci⟩:=k3 (n:=aS l t) (j:=c) u;obtain⟨co,cs⟩:=k3 (n:=aS l t) (j:=e) (U:c<aS l t);rw[Jx (U:c<aS l t) u R]
     ·exact ae.ag.2 rfl
     ·rw[ce,ci,S,D];rfl
     rw[co,cs,S,J4,D];rfl
    have:¬bw l t e>=aO l t+c:=λF=>R (ad.1 F);rw[bi (az (U:¬((bw l t e:Nat):Int)>=((aO l t+c:Nat):Int))),Rd U];exact ae.ag.2 rfl
   rintro _ rfl;dsimp only;rw[bi (az (U:¬((aS l t:Int)<(aS l t:Int)))),Jw];exact ae.ag.2 rfl
  rintro _ rfl;dsimp only;rw[bi (az (U:¬(((aO l t+bf l t:Nat):Int)<(aO l (t+1):Int))))];have:aw (aS l t*aS l t) (gy (λd=>(be E h (bw l t (d %aS l t)) (bw l t (d/aS l t))).getD 0) (aS l t) (bf l t) 0)=aw (aS l t*aS l t) (λd=>a8 (some (mO (be E h) l t d))):=bI λd _=>by
   unfold gy mO;by_cases A:kn (aS l t) d<bf l t
   ·rw[ai (show hF (aS l t) (bf l t) 0 d from .inl A),ai A]
   rw[ah (show¬hF (aS l t) (bf l t) 0 d by unfold hF;omega),ah A,JQ]
  rw[this];exact ae.ag.2 rfl
 rintro _ rfl;dsimp only;have H:ay (L.map (gV l))=(L.length:Int):=(by rw[a1,List.length_map]);rw[H];have d2:∀d,(mO (be E h) l t d).natAbs<=1*dS:=λd=>by
  unfold mO;split
  ·obtain⟨bB,D,d4⟩:=W (bw l t (d %aS l t)) (bw l t (d/aS l t));rw[D];exact d4
  exact bE _
 have d9:∀a∈L,∀m r,(eK l cv m r a).natAbs<=160*dS:=λa Q m r=>by
  unfold eK;split
  ·exact(Y a Q).2.2 m r
  exact bE _
 have fn:∀(w:ad4),(∀a∈w,a∈L)->∀m r,(dL (eK l cv m r) w).natAbs<=w.length*160*dS:=by
  intro w
  induction w with
  |nil=>intro _ m r;exact bE _
  |cons a w f3=>
   intro I m r;have N:=f3 (λp a4=>I p (by simp[a4])) m r;have O:=d9 a (I a ac) m r;show(eK l cv m r a+dL (eK l cv m r) w).natAbs<=(w.length+1)*160*dS;rw[eO,eO,hD];omega
 have d3:∀b d,b<=L.length->(iS (be E h) l cv t (L.take b) d).natAbs<=801*dS:=λb d s=>(by have N:=d2 d;have O:=fn (L.take b) (λa Q=>List.mem_of_mem_take Q) (bw l t (d %aS l t)) (bw l t (d/aS l t));have dl:(L.take b).length*160*dS<=800*dS:=fP _ (by rw[dZ];omega);have ds:801*dS=1*dS+800*dS:=(by rw[<-eO]);unfold iS;omega);refine ae.aU (P:=λc=>c=.inl (v,fR (aS l t) (iS (be E h) l cv t L),())) ?_ (by rintro _ rfl;exact ae.ag.2 rfl);refine ae.steps L.length (λb d=>d=((b:Int),v,fR (aS l t) (iS (be E h) l cv t (L.take b)),())) ?_ ?_ ?_
 ·have:fR (aS l t) (iS (be E h) l cv t (L.take 0))=fR (aS l t) (mO (be E h) l t):=EA λd _=>by
   unfold iS;rw[List.take_zero];show _+0=_;omega
  rw[this];rfl
 ·rintro b _ s rfl;dsimp only;rw[bo (aB (U:(b:Int)<(L.length:Int))),bt U];have f0:L.take (b+1)=L.take b++[L[b]]:=(by rw[List.take_add_one,List.getElem?_eq_getElem s];rfl);obtain⟨z,a3,d6⟩:=Y L[b] (List.getElem_mem s);have d7:(L.map (gV l))[b]?=some (gV l L[b]):=(by rw[List.getElem?_map,List.getElem?_eq_getElem s];rfl);have fz:(L.map (jG l cv))[b]?=some (jG l cv L[b]):=(by rw[List.getElem?_map,List.getElem?_eq_getElem s];rfl);generalize L[b]=a at*;have gf:=z.own;have ge:=z.sS;have d8:=z.mr;have gc:=z.sD;refine ae.bs (eC d7) ?_;have c1:(gV l a).1=(aO l a:Int):=rfl;have f2:(gV l a).2.1=(aO l (a+1):Int):=rfl;have c2:(gV l a).2.2.1=dT l (a:Int):=rfl;rw[c1,f2,c2];have f1:ar ((aO l (a+1):Int)-(aO l a:Int))=((bf l a:Nat):Int):=(by rw[(U:(aO l (a+1):Int)-(aO l a:Int)=((bf l a:Nat):Int)),bm U U]);have fT:((fV (ar ((aO l (a+1):Int)-(aO l a:Int)))).bind λbd=>(some (dT l (a:Int)).length).bind λbl=>(gd bd bl (dT l (a:Int)).length).map λ_=>(bd,bl))=some (bf l a,aS l a):=by
   rw[f1,UH];show(gd (bf l a) (aS l a) (aS l a)).map _=_;unfold gd;rw[ai ⟨d8,a2 _⟩];rfl
  refine ae.bs fT ?_;dsimp only;have ek:List.drop (bf l a) (List.take (aS l a) (dT l (a:Int)))=List.drop (bf l a) (dT l (a:Int)):=(by congr 1;exact List.take_of_length_le (Nat.le_refl _));have ab:(List.drop (bf l a) (dT l (a:Int))).length=aS l a-bf l a:=(by rw[List.length_drop];rfl);rw[ek];generalize X:aS l a-bf l a=i at*;have C:∀b,b<i->hN l t (bw l a (bf l a+b))<aS l t/\bw l t (hN l t (bw l a (bf l a+b)))=bw l a (bf l a+b):=λb s=>
   G3 o (a3 _ ⟨bf l a+b,U,U,rfl⟩)
  refine ae.aU (P:=λc=>c=(v,fR (aS l t) (iS (be E h) l cv t (L.take b)),aw i (λb=>((hN l t (bw l a (bf l a+b)):Nat):Int)),())) ?_ ?_
  ·refine ae.steps i (λq d=>d=((q:Int),v,fR (aS l t) (iS (be E h) l cv t (L.take b)),aw q (λb=>((hN l t (bw l a (bf l a+b)):Nat):Int)),())) rfl ?_ ?_
   ·rintro q _ ex rfl;dsimp only;rw[a1,ab,bo (aB (U:(q:Int)<(i:Int))),bt U];have em:(List.drop (bf l a) (dT l (a:Int)))[q]?=some ((bw l a (bf l a+q):Nat):Int):=by
     rw[jA];exact z.get _ U
    refine ae.bs (eC em) ?_;obtain⟨J,K⟩:=C q ex;have am:=o.get _ J;rw[K] at am;have f8:(dT l (t:Int)).length=aS l t:=rfl;have eq:vy ((gV l t).2.2.1,((bw l a (bf l a+q):Nat):Int),())=some ((hN l t (bw l a (bf l a+q)):Int),()):=(by refine KP (l:=dT l (t:Int)) U am λc av a0=>?_;rw[o.get c U] at a0;have M:bw l t c=bw l a (bf l a+q):=(by have:=Option.some.inj a0;omega);have:=o.inj (U:c<aS l t) J (M.trans K.symm);omega);refine ae.bs eq ?_;dsimp only;rw[dQ (by rw[bk];simp;omega),Option.bind_some];refine ae.ag.2 ?_;rw[nL]
   rintro _ rfl;dsimp only;rw[a1,ab,bi (az (U:¬((i:Int)<(i:Int))))];exact ae.ag.2 rfl
  rintro _ rfl;dsimp only;refine ae.bs (eC fz) ?_;have an:∀b,b+1<i->hN l t (bw l a (bf l a+b))<hN l t (bw l a (bf l a+(b+1))):=λb s=>by
   obtain⟨J,K⟩:=C b U;obtain⟨ax,f4⟩:=C (b+1) s;have gs:=z.ms (bf l a+b) (bf l a+(b+1)) U U;rcases kX (hN l t (bw l a (bf l a+b))) (hN l t (bw l a (bf l a+(b+1)))) with p|p|p
   ·exact p
   ·rw[p,f4] at K;omega
   have:=o.ms _ _ p J;omega
  have d0:i<=aS l t:=by
   rcases gk i with A|A
   ·omega
   have N:=Lb (f:=λb=>hN l t (bw l a (bf l a+b))) an (i-1) U;have O:=(C (i-1) U).1;omega
  have d5:jG l cv a=fR i (oJ l cv a):=(by unfold jG;rw[X]);rw[d5];have Z:∀c,(oJ l cv a c).natAbs<=160*dS:=λc=>d6 _ _;have ed:=RF G d0 (pz:=λb=>hN l t (bw l a (bf l a+b))) (λb s=>(C b s).1) an (f:=iS (be E h) l cv t (L.take b)) (g:=oJ l cv a) (λd _=>ws (Z d) aa) (λe d u _=>by
   have N:=d3 b d U;have O:=Hp (f:=λc=>if uv i (aS l t) (λb=>hN l t (bw l a (bf l a+b))) c=d then oJ l cv a c else 0) (n:=e) (k:=160) (B:=dS) (λc _=>by
    split
    ·exact Z c
    exact bE _)
   have gi:=qx (U:i<=5);have dl:e*160*dS<=4000*dS:=fP _ U;have ds:4801*dS=801*dS+4000*dS:=(by rw[<-eO]);refine ws (k:=4801) ?_ aa;unfold h4;omega)
  refine ae.bs ed ?_;dsimp only;rw[bi (by rfl)];refine ae.ag.2 ?_;have:fR (aS l t) (h4 i (aS l t) (λb=>hN l t (bw l a (bf l a+b))) (iS (be E h) l cv t (L.take b)) (oJ l cv a) (i*i))=fR (aS l t) (iS (be E h) l cv t (L.take (b+1))):=EA λd I=>(by have:=Qs (cv:=cv) o z a3 (iS (be E h) l cv t (L.take b)) I;rw[X] at this;rw[this,f0];unfold iS;rw[CB];show _=mO (be E h) l t d+(_+(_+0));omega);rw[this]
 rintro _ rfl;dsimp only;rw[bi (az (U:¬((L.length:Int)<(L.length:Int)))),List.take_of_length_le (Nat.le_refl _)];exact ae.ag.2 rfl
end
end
section
section
variable {A:Nat->Nat->adZ} {G:adU} {n:Nat} {l:List bW}
structure nr (A:Nat->Nat->adZ) (G:adU) (n:Nat) (l:List bW) (t:Nat) (cv:Nat->Nat->Nat->Int):Prop where
 sym:∀c,c<t->∀x y,cv c x y=cv c y x
 Aq:∀c,c<t->∀x y,(cv c x y).natAbs<=(ml c+5)*dS
 dw:∀x y,aO l t<=x->x<n->aO l t<=y->y<n->dL (eK l cv x y) ((List.range t).filter λc=>decide ((t:Int)<=fH l c))=fi (λm=>hy A G m x y) (aO l t)
def nr.zero (c:Nat->Nat->Nat->Int):nr A G n l 0 c:=⟨λb a=>absurd a U,λb a=>absurd a U,λd e _ _ _ _=>rfl⟩
def La (a:gY G l):∀{t},t<=l.length->t<=aO l t
 |0,_=>bE _
 |t+1,c=>by have d:=La a (t:=t) U;obtain⟨_,_,b,_⟩:=(a.1.1 t U).at U;omega
def TX (a:gY G l) (b:G.length=n):l.length<=n:=by have:=La a (a2 l.length);have:=a.1.2;omega
structure np (A:Nat->Nat->adZ) (G:adU) (n:Nat) (l:List bW):Prop where
 lM:n<=5
 hW:G.length=n
 tE:da G
 ok:gY G l
 Af:∀p q,h0 1 (A p q)
 Fe:∀p q,p<n->q<n->p≠q->A p q≠some 0->c9 G p q
def np.f (b:np A G n l) (c:a<l.length):iM n l a:=iM.of b.ok b.hW c
def np.K4 (a:np A G n l):l.length<=5:=dh (TX a.ok a.hW) a.lM
def JG (g:∀c d,b a c d=b a d c) (c d:Nat):eK l b c d a=eK l b d c a:=by
 unfold eK;by_cases e:kj l a c/\kj l a d
 ·rw[ai e,ai ⟨e.2,e.1⟩,g]
 rw[ah e,ah (λf=>e ⟨f.2,f.1⟩)]
def Ay (d:¬(kj l a c/\kj l a g)):eK l b c g a=0:=by unfold eK;rw[ah d]
def CJ:a∈en l g c↔a<g/\fH l a=(c:Int):=by unfold en;rw[eY,fe,decide_eq_true_eq]
def Jn (d:np A G n l) (o:a<=l.length) (j:c∈en l a a):c<a/\iM n l c/\∀b,kj l c b->(b:Int)∈dT l (a:Int):=by
 obtain⟨h,i⟩:=CJ.1 j;refine⟨h,d.f U,λb g=>?_⟩;rcases C9 d.ok d.hW (U:c<l.length) with⟨_,e⟩|⟨m,k,_,_,e⟩
 ·exact absurd g (e b)
 obtain rfl:m=a:=(by rw[k] at i;omega);exact e b g
def Q1 (e:np A G n l) (r:nr A G n l a b) (j:a<l.length) (s:aO l a<=c) (t:c<n) (u:aO l a<=g) (v:g<aO l (a+1)):dL (eK l b c g) (en l a a)=fi (λw=>hy A G w c g) (aO l a):=by
 have p:=e.f j;have y:=p.sS;rw[<-r.dw c g s t u U];have o:en l a a=((List.range a).filter λd=>decide ((a:Int)<=fH l d)).filter λd=>decide (fH l d=(a:Int)):=by
  unfold en;rw[List.filter_filter];refine sv λd _=>?_;by_cases h:fH l d=(a:Int)
  ·rw[aB h,aB (U:(a:Int)<=fH l d)];rfl
  rw[az h];rfl
 rw[o];refine K5 λd q i=>Ay λx=>?_;obtain⟨k,m⟩:=eY.1 q;have k:=fe.1 k;have m:(a:Int)<=fH l d:=of_decide_eq_true m;have:=Xz e.ok e.hW j (U:d<l.length) x.2 v;have i:¬fH l d=(a:Int):=of_decide_eq_false i;omega
def SX (c:np A G n l) (q:nr A G n l a b) (k:a<l.length):lU A G n (aO l a) (bf l a) (aS l a) (bw l a) (iS A l b a (en l a a)):=by
 have d:=c.f k;have I:=c.lM;have P:=d.own;have N:=d.sS;have C:=d.mr;have O:=c.K4;refine⟨I,c.hW,c.tE,c.Af,c.Fe,U,C,d.sD,d.ro,d.wo,d.ms,λg r R H=>?_,λg m r z i=>?_,λe _=>?_⟩
 ·exact d.pos (Da c.tE (by rw[c.hW];omega) c.ok k U U H)
 ·obtain⟨s,u⟩:=k3 (n:=aS l a) (j:=g) i;have E:=d.ro g r;have D:aO l a<=bw l a m:=by
   rcases Nat.eq_or_lt_of_le z with o|o
   ·rw[<-o,E];omega
   have:=d.ms g m o i;omega
  unfold iS mO kn;rw[s,u,ai U,Q1 c q k D (d.wo m i) U U]
 unfold iS;have J:(mO A l a e).natAbs<=1*dS:=by
  unfold mO;split
  ·obtain⟨Q,F,x⟩:=c.Af (bw l a (e %aS l a)) (bw l a (e/aS l a));rw[F];exact x
  exact bE _
 have v:=F4 (f:=eK l b (bw l a (e %aS l a)) (bw l a (e/aS l a))) (p:=λh=>decide (fH l h=(a:Int))) (B:=dS) (t:=a) (λh y _=>by
  unfold eK;split
  ·exact q.Aq h y _ _
  exact bE _)
 have w:=KU (U:a<=5);have K:ml a*dS<=155*dS:=fP _ w;have L:1000*dS=155*dS+845*dS:=(by rw[<-eO]);have M:845*dS=1*dS+844*dS:=(by rw[<-eO]);change(dL (eK l b (bw l a (e %aS l a)) (bw l a (e/aS l a))) (en l a a)).natAbs<=ml a*dS at v;omega
def kp (A:Nat->Nat->adZ) (G:adU) (l:List bW) (a:Nat) (e:Nat->Nat->Nat->Int) (d b c:Nat):Int:=
 if d=a then dL (eK l e b c) (en l a a)+fi (λf=>hy A G (aO l a+f) b c) (bf l a) else e d b c
def CS {cv:Nat->Nat->Nat->Int} (b:a<c):kp A G l c cv a=cv a:=by funext x y;unfold kp;rw[ah U]
def RB (f:a<c) (d e:Nat):eK l (kp A G l c b) d e a=eK l b d e a:=by unfold eK;rw[CS f]
def U1 (t:np A G n l) (w:nr A G n l a b) (y:a<l.length):fR (aS l a-bf l a) (lF A G (aO l a) (bf l a) (aS l a) (bw l a) (iS A l b a (en l a a)))=jG l (kp A G l a b) a:=by
 have C:=t.f y;unfold jG;refine EA λk m=>?_;have u:0<aS l a-bf l a:=by
  rcases gk (aS l a-bf l a) with c|c
  ·rw[c,mJ] at m;omega
  exact c
 have z:=ot k u;have B:k/(aS l a-bf l a)<aS l a-bf l a:=uR m;have o:∀h i,h<aS l a-bf l a->i<=h->my A G (aO l a) (aS l a) (bw l a) (iS A l b a (en l a a)) (bf l a) (bf l a+h) (bf l a+i)=dL (eK l b (bw l a (bf l a+h)) (bw l a (bf l a+i))) (en l a a)+fi (λd=>hy A G (aO l a+d) (bw l a (bf l a+h)) (bw l a (bf l a+i))) (bf l a):=λh i D E=>(by obtain⟨q,r⟩:=k3 (n:=aS l a) (j:=bf l a+i) (U:bf l a+h<aS l a);unfold my iS mO kn;rw[q,r,ah U,qK]);have x:∀e g,dL (eK l b e g) (en l a a)+fi (λd=>hy A G (aO l a+d) e g) (bf l a)=dL (eK l b g e) (en l a a)+fi (λd=>hy A G (aO l a+d) g e) (bf l a):=λe g=>(by have al:dL (eK l b e g) (en l a a)=dL (eK l b g e) (en l a a):=yE λp v=>JG (w.sym p (CJ.1 v).1) e g;have s:fi (λd=>hy A G (aO l a+d) e g) (bf l a)=fi (λd=>hy A G (aO l a+d) g e) (bf l a):=Hq λd _=>OB _ _ _;rw[al,s]);unfold lF oJ kp;rw[ai rfl];unfold nS kn;rcases Nat.le_total (k/(aS l a-bf l a)) (k %(aS l a-bf l a)) with c|c
 ·rw[Nat.max_eq_right c,fu c,o _ _ z c]
 rw[Nat.max_eq_left c,uS c,o _ _ B c,x]
def K6 (a:Nat->Int) (d:Nat):∀b:ad4,dL a (b.filter λc=>decide ((d:Int)<=fH l c))=dL a (b.filter λc=>decide (((d+1:Nat):Int)<=fH l c))+dL a (b.filter λc=>decide (fH l c=(d:Int)))
 |[]=>rfl
 |c::b=>by
  have e:=K6 a d b;rw[jd,jd,jd];rcases Int.lt_trichotomy (fH l c) (d:Int) with f|f|f
  ·rw[ah (by simp;omega),ah (by simp;omega),ah (by simp;omega),e]
  ·rw[ai (by simp;omega),ah (by simp;omega),ai (by simp;omega)];show a c+dL a _=dL a _+(a c+dL a _);rw[e];omega
  rw[ai (by simp;omega),ai (by simp;omega),ah (by simp;omega)];show a c+dL a _=a c+dL a _+dL a _;rw[e];omega
def nr.next (i:np A G n l) (r:nr A G n l a b) (s:a<l.length) (C:i9 A G (aO l (a+1))):nr A G n l (a+1) (kp A G l a b):=by
 have m:=i.f s;have N:=m.own;have z:=m.sS;have Z:=i.lM;refine⟨λc q d e=>?_,λc q d e=>?_,λd e F O H P=>?_⟩
 ·rcases bg c a with h|h
  ·rw[CS h,r.sym c h]
  obtain rfl:c=a:=U;unfold kp;rw[ai rfl,ai rfl];have al:dL (eK l b d e) (en l c c)=dL (eK l b e d) (en l c c):=yE λj x=>JG (r.sym j (CJ.1 x).1) d e;have v:fi (λg=>hy A G (aO l c+g) d e) (bf l c)=fi (λg=>hy A G (aO l c+g) e d) (bf l c):=Hq λg _=>OB _ _ _;rw[al,v]
 ·rcases bg c a with h|h
  ·rw[CS h];exact r.Aq c h d e
  obtain rfl:c=a:=U;unfold kp;rw[ai rfl];have L:=F4 (f:=eK l b d e) (p:=λj=>decide (fH l j=(c:Int))) (B:=dS) (t:=c) (λj x _=>by
   unfold eK;split
   ·exact r.Aq j x _ _
   exact bE _)
  change(dL (eK l b d e) (en l c c)).natAbs<=ml c*dS at L;have W:=Hp (f:=λg=>hy A G (aO l c+g) d e) (n:=bf l c) (k:=1) (B:=dS) (λg M=>(HK C i.hW z (U:aO l c+g<aO l (c+1))).2);have X:bf l c*1*dS<=5*dS:=fP _ U;rw[eO];omega
 have y:=r.dw d e U O U P;rw[K6] at y;have al:dL (eK l (kp A G l a b) d e) ((List.range (a+1)).filter λc=>decide (((a+1:Nat):Int)<=fH l c))=dL (eK l b d e) ((List.range a).filter λc=>decide (((a+1:Nat):Int)<=fH l c))+eK l (kp A G l a b) d e a:=by
  rw[iP,jc,CB];have v:dL (eK l (kp A G l a b) d e) ((List.range a).filter λc=>decide (((a+1:Nat):Int)<=fH l c))=dL (eK l b d e) ((List.range a).filter λc=>decide (((a+1:Nat):Int)<=fH l c)):=yE λc q=>RB (fe.1 (eY.1 q).1) d e;rw[v];congr 1;rcases C9 i.ok i.hW s with⟨w,u⟩|⟨V,w,Y,_,_⟩
  ·rw[Ay λj=>u d j.1,pv (by rw[w];simp;omega)];rfl
  rw[pw (by rw[w];simp;omega)];show _+0=_;omega
 rw[al,<-N,N2,<-y];have R:eK l (kp A G l a b) d e a=dL (eK l b d e) (en l a a)+fi (λg=>hy A G (aO l a+g) d e) (bf l a):=by
  by_cases h:kj l a d/\kj l a e
  ·unfold eK;rw[ai h];unfold kp;rw[ai rfl];rfl
  rw[Ay h];have S:dL (eK l b d e) (en l a a)=dL (λ_=>0) (en l a a):=yE λc q=>Ay λu=>(by obtain⟨_,_,E⟩:=Jn i (pD s) q;exact h ⟨m.beyond (E d u.1) F,m.beyond (E e u.2) H⟩);have T:∀o:ad4,dL (λ_=>0) o=0:=λo=>by
   induction o with
   |nil=>rfl
   |cons c o Q=>show(0:Int)+dL (λ_=>0) o=0;rw[Q];rfl
  rw[S,T,Dv]
  ·rfl
  intro g M;refine OC C i.hW z (U:aO l a+g<aO l (a+1)) ?_;by_cases I:aX G (aO l a+g) d=true
  ·by_cases J:aX G (aO l a+g) e=true
   ·have D:G.length<=200:=(by rw[i.hW];omega);exact absurd ⟨m.beyond (Da i.tE D i.ok s U U I) F,m.beyond (Da i.tE D i.ok s U U J) H⟩ h
   exact .inr (by simpa using J)
  exact .inl (by simpa using I)
 have K:dL (eK l b d e) ((List.range a).filter λc=>decide (fH l c=(a:Int)))=dL (eK l b d e) (en l a a):=rfl;rw[R,K];omega
end
end
section
section
variable {A:Nat->Nat->adZ} {G:adU} {n:Nat} {l:List bW}
def hZ (A:Nat->Nat->adZ) (G:adU) (b c a:Nat):ad5:=if a<b then fZ A G a else if a=b then(fZ A G a).take c else[]
def HA:hZ A G c 0 a=if a<c then fZ A G a else[]:=by
 unfold hZ;by_cases b:a<c
 ·rw[ai b,ai b]
 rw[ah b,ah b];split
 ·rfl
 rfl
def Zu (e:(fZ A G a).length<=g):hZ A G a g c=hZ A G (a+1) 0 c:=by
 rw[HA];unfold hZ;by_cases d:c<a
 ·rw[ai d,ai U]
 rw[ah d];by_cases b:c=a
 ·rw[ai b,ai U,b,dm e]
 rw[ah b,ah U]
def ZC (m:np A G n l) (z:a<l.length) (i:List g5) (h:adU):AA ((aw n (bc G),aw n (hZ A G (aO l a) 0),i,h,()),gV l a,((aS l a:Int),(bf l a:Int),aw (aS l a*bf l a) (jS A G (aO l a) (aS l a) (bw l a) (bf l a) 0),()),())=some ((aw n (bc G),aw n (hZ A G (aO l (a+1)) 0),i,h,()),()):=by
 classical
 have c:=m.f z;have ad:=m.lM;have H:=c.own;have R:=c.sS;have X:=c.mr;have Q:=c.sD;have T:=m.hW;unfold AA;have E:(gV l a).1=(aO l a:Int):=rfl;have F:(gV l a).2.1=(aO l (a+1):Int):=rfl;have K:(gV l a).2.2.1=dT l (a:Int):=rfl;dsimp only;rw[E,F,K];refine ae.eq_iff.1 ?_;refine ae.aU (P:=λb=>b=((aw n (bc G),aw n (hZ A G (aO l (a+1)) 0),i,h,()),())) ?_ (by rintro _ rfl;exact ae.ag.2 rfl);refine ae.steps (bf l a) (λb d=>d=(((aO l a+b:Nat):Int),(aw n (bc G),aw n (hZ A G (aO l a+b) 0),i,h,()),())) rfl ?_ ?_
 ·rintro b _ r rfl;dsimp only;rw[bo (aB (U:((aO l a+b:Nat):Int)<(aO l (a+1):Int))),bt U];have k:aO l a+b<n:=U;have S:=vf (G:=G) (aO l a+b);have Z:=aah A G (aO l a+b);refine ae.bs (y:=bc G (aO l a+b)) (by rw[bQ (by rw[bk];exact k),fD]) ?_;refine ae.aU (P:=λg=>g=((aw n (bc G),aw n (hZ A G (aO l a+b+1) 0),i,h,()),())) ?_ (by rintro _ rfl;exact ae.ag.2 rfl);refine ae.steps (bc G (aO l a+b)).length (λd g=>g=((d:Int),(aw n (bc G),aw n (hZ A G (aO l a+b) d),i,h,()),())) rfl ?_ ?_
  ·rintro d _ s rfl;dsimp only;rw[bo (aB (show(d:Int)<ay (bc G (aO l a+b)) by rw[a1];omega)),bt U];obtain⟨e,B,ab,W,I⟩:=xg (List.getElem_mem s);refine ae.bs (y:=(e:Int)) (by rw[bQ s,B]) ?_;have M:=Da m.tE U m.ok z (U:aO l a<=aO l a+b) (U:aO l a+b<aO l (a+1)) I;obtain⟨o,u⟩:=G3 c M;have w:=c.get _ o;rw[u] at w;have O:(dT l (a:Int)).length=aS l a:=rfl;refine ae.bs (KP (l:=dT l (a:Int)) U w λt V x=>?_) ?_
   ·rw[c.get t U] at x;have D:bw l a t=e:=(by have:=ee x;omega);have:=c.inj (U:t<aS l a) o (D.trans u.symm);omega
   dsimp only;refine ae.bs (dd (by rw[bk];exact k)) ?_;have N:ar (((aO l a+b:Nat):Int)-(aO l a:Int))=(b:Int):=(by rw[(U:((aO l a+b:Nat):Int)-(aO l a:Int)=(b:Int)),bm U U]);rw[N,pj (U:aS l a<=5) (U:b<aS l a) o];have J:b<=hN l a e:=by
    rcases bg (hN l a e) b with g|g
    ·have:=c.ms _ b g U;have:=c.ro b r;omega
    exact g
   have L:aC (aw (aS l a*bf l a) (jS A G (aO l a) (aS l a) (bw l a) (bf l a) 0)) ((b*aS l a+hN l a e:Nat):Int)=some (bn A (aX G) (aO l a+b) e):=(by rw[bQ (by rw[bk];exact Eu r o),fD];obtain⟨q,v⟩:=k3 (n:=aS l a) (j:=b) o;unfold jS;rw[ai (show jH (aS l a) (bf l a) 0 (b*aS l a+hN l a e) from⟨by rw[q,v];exact J,.inl (by rw[q];exact r)⟩),q,v,u]);refine ae.bs L ?_;rw[dn k];refine ae.bs rfl ?_;have Y:(hZ A G (aO l a+b) d (aO l a+b)).length<=5:=(by unfold hZ;rw[ah U,ai rfl,dZ];omega);rw[dQ (by simp;omega),aG];refine ae.bs (dd (by rw[bk];exact k)) ?_;rw[bo ac,dn k];refine ae.bs rfl ?_;rw[dn k,e9];refine ae.ag.2 ?_;have:aw n (bU (hZ A G (aO l a+b) d) (aO l a+b) (hZ A G (aO l a+b) d (aO l a+b)++[bn A (aX G) (aO l a+b) e]))=aw n (hZ A G (aO l a+b) (d+1)):=by
    refine bI λC _=>?_;by_cases p:C=aO l a+b
    ·rw[p,ei];unfold hZ;rw[ah U,ai rfl,ah U,ai rfl,ir];congr 1;unfold fZ;rw[fB,a9 s,B];rfl
    rw[ew _ _ p];unfold hZ;rw[ah p,ah p]
   rw[<-this]
  rintro _ rfl;dsimp only;rw[bi (az (show¬(((bc G (aO l a+b)).length:Nat):Int)<ay (bc G (aO l a+b)) by rw[a1];omega))];have:aw n (hZ A G (aO l a+b) (bc G (aO l a+b)).length)=aw n (hZ A G (aO l a+b+1) 0):=bI λC _=>Zu U;rw[this];exact ae.ag.2 rfl
 rintro _ rfl;dsimp only;rw[bi (az (U:¬(((aO l a+bf l a:Nat):Int)<(aO l (a+1):Int)))),H];exact ae.ag.2 rfl
def xc (b a:Nat):en l (b+1) a=if fH l b=(a:Int) then en l b a++[b] else en l b a:=by
 unfold en;rw[iP,jc];by_cases c:fH l b=(a:Int)
 ·rw[ai c,pw (p:=λd=>decide (fH l d=(a:Int))) (by exact decide_eq_true c),px]
 rw[ah c,pv (by simpa using c),px,kB]
def Jp (a b:Nat):(en l a b).length<=a:=by unfold en;have:=ip (λc=>decide (fH l c=(b:Int))) (List.range a);rw[qN] at this;exact this
end
def QU {n:Nat} {h e i:ad5} (u:n<=5) (C:gn n n h e i) (Y:eG n n h e i=0) {c:ad5} (D:dY c n) {l:fv} (V:gY (gb n (dq (bv h e i n)) c) l):oM (((n:Int),(n:Int),h,e,i,()),c,l,())=some (iY (be (bv h e i n) c) (gb n (dq (bv h e i n)) c) c n):=by
 classical
 obtain⟨bB,cs,c1⟩:=D5 u C Y D;have z:=rA (E:=dq (bv h e i n)) D;have T:=tD n (dq (bv h e i n)) c;have av:=yx (E:=dq (bv h e i n)) u D;have eq:=D.1;have W:=(iU.1 Y).1;have co:=(iU.1 Y).2;have an:∀r s,h0 1 (be (bv h e i n) c r s):=λr s=>h0.Km (aak (oQ W (Ch co)) _ _);have ci:∀b j,b<n->j<n->b≠j->be (bv h e i n) c b j≠some 0->c9 (gb n (dq (bv h e i n)) c) b j:=λb j w x R ce=>R5 (p4 W n (Nat.le_refl _)) (p3 W) D w x R ce;have p:np (be (bv h e i n) c) (gb n (dq (bv h e i n)) c) n l:=⟨u,z,T,V,an,ci⟩;have em:=p.K4;have a3:∀a,(Q:a<l.length)->l[a]=gV l a:=λa Q=>(by have:=(p.f Q).g;rw[List.getElem?_eq_getElem Q] at this;exact Option.some.inj this);have a4:∀v∈l,v.2.2.1.length<=5:=λv ab=>(by obtain⟨a,d,rfl⟩:=List.mem_iff_getElem.1 ab;rw[a3 a d];exact Nat.le_trans (p.f d).sD u);have c2:gG (gb n (dq (bv h e i n)) c)=0:=nE.2 ⟨U,T⟩;have d0:k5 (gb n (dq (bv h e i n)) c) l=0:=(by unfold k5;rw[if_neg (not_not_intro c2),if_pos V]);have ap:=H6 av (l:=l) U (λv ab=>by have:=a4 v ab;omega);rw[d0] at ap;unfold oM;refine aq c1 ?_;dsimp only;rw[bi (by rfl)];refine aq rfl (aq ap ?_);dsimp only;rw[bi (by rfl)];generalize gb n (dq (bv h e i n)) c=G at*;generalize bv h e i n=E at*;refine ae.eq_iff.1 ?_;refine ae.aU (P:=λj=>j=.inl (gA,())) ?_ ?_
 ·refine ae.steps l.length (λa ad=>ad=((a:Int),gA,())) rfl ?_ ?_
  ·rintro a _ d rfl;dsimp only;rw[a1,bo (aB (U:(a:Int)<(l.length:Int))),bt U];refine ae.bs (y:=l[a]) (bQ d) ?_;have:=a4 l[a] (List.getElem_mem d);rw[bi (az (show¬ay (l[a]).2.2.1>64 by rw[a1];omega))];exact ae.ag.2 rfl
  rintro _ rfl;dsimp only;rw[a1,bi (az (U:¬((l.length:Int)<(l.length:Int))))];exact ae.ag.2 rfl
 rintro _ rfl;dsimp only;refine ae.bs (I7 u z T av bB) ?_;dsimp only;rw[a1];refine ae.bs (fU U) (ae.bs (fU U) ?_);have d6:(aw n λ_=>([]:ad5))=aw n (hZ (be E c) G 0 0):=bI λt _=>(by rw[HA,if_neg U]);rw[d6];refine ae.aU (P:=λj=>(j=.inr (iY (be E c) G c n))\/(j=.inl (gA,(aw n (bc G),aw n (fZ (be E c) G),(aw n λ_=>none),(aw n λr=>gr G n r),()),())/\iY (be E c) G c n=(oS (be E c) G c n,(n:Int),0,()))) ?_ ?_
 ·refine ae.steps l.length (λa ad=>∃k,(∀t,t<aO l a->dz (be E c) G t=0)/\nr (be E c) G n l a k/\ad=((a:Int),gA,(aw n (bc G),aw n (hZ (be E c) G (aO l a) 0),(aw n λ_=>none),(aw n λr=>gr G n r),()),aw l.length (λb=>(en l a b).map (gV l)),aw l.length (λb=>(en l a b).map (jG l k)),())) ?_ ?_ ?_
  ·refine⟨λ_ _ _=>0,λt C=>absurd C (uT _),nr.zero _,?_⟩;rw[gU,gU];rfl
  ·rintro a _ d ⟨k,K,B,rfl⟩;dsimp only;rw[bo (aB (U:(a:Int)<(l.length:Int))),bt U];have S:=p.f d;have d3:=S.own;have ed:=S.sS;refine ae.aU (P:=λj=>(j=.inr (.inr (.inr (iY (be E c) G c n))))\/∃H,(∀t,t<aO l (a+1)->dz (be E c) G t=0)/\nr (be E c) G n l (a+1) H/\j=.inl (gA,(aw n (bc G),aw n (hZ (be E c) G (aO l (a+1)) 0),(aw n λ_=>none),(aw n λr=>gr G n r),()),aw l.length (λb=>(en l (a+1) b).map (gV l)),aw l.length (λb=>(en l (a+1) b).map (jG l H)),())) ?_ ?_
   ·refine ae.bs (y:=gV l a) (by rw[bQ d,a3 a d]) ?_;refine ae.bs (dd (by rw[bk];exact d)) (ae.bs (dd (by rw[bk];exact d)) ?_);rw[dn d];refine ae.bs rfl ?_;rw[dn d];refine ae.bs rfl ?_;have ds:=SH (cv:=k) u cs (G0:=G) S an (L:=en l a a) (λM X=>by
     obtain⟨w,x,R⟩:=Jn p (pD d) X;refine⟨x,R,λd8 v=>dh (B.Aq M w d8 v) (fP _ ?_)⟩;have:=KU (U:M<=5);omega) (dh (Jp a a) U)
    refine ae.bs ds ?_;dsimp only;rw[bi (by rfl)];have d1:(gV l a).1=(aO l a:Int):=rfl;have d2:(gV l a).2.1=(aO l (a+1):Int):=rfl;have d5:(gV l a).2.2.2.1=fH l a:=rfl;rw[d1,d2,d5];have d7:ar ((aO l (a+1):Int)-(aO l a:Int))=((bf l a:Nat):Int):=(by rw[(U:(aO l (a+1):Int)-(aO l a:Int)=((bf l a:Nat):Int)),bm U U]);rw[d7];refine ae.aU (Po (SX p B d) K) ?_;rintro j (⟨s,el,d4,bd,b,d9,rfl⟩|⟨J,rfl⟩)
    ·dsimp only;have I:=F7 (o:=c) d4 (U:aO l a+s<n) bd;rw[dB,br];refine ae.ite (λm=>?_) (λm=>?_)
     ·refine ae.ag.2 (.inl ?_);rw[I,ai m,ai m,m];have:ar ((aO l a:Int)+(s:Int))=((aO l a+s:Nat):Int):=(by rw[(U:(aO l a:Int)+(s:Int)=((aO l a+s:Nat):Int)),bm U U]);rw[this];rfl
     rw[bo (by rw[b0,az bd];rfl)];refine ae.ag.2 (.inl ?_);rw[I,ah m];rfl
    rw[d3] at J;have a0:=B.next p d (yw J);dsimp only;rw[bi (show((0:Int)==231)=false from rfl),bi (show((0:Int)!=0)=false from rfl)];refine ae.bs (ZC p d _ _) ?_;dsimp only;rw[U1 p B d];have Z:∀b,(en l a b).map (jG l (kp (be E c) G l a k))=(en l a b).map (jG l k):=λb=>List.map_congr_left λM X=>(by have:=CS (A:=be E c) (G:=G) (l:=l) (cv:=k) (CJ.1 X).1;unfold jG oJ;rw[this]);rcases C9 p.ok z d with⟨bl,_⟩|⟨b,F,ex,q,_⟩
    ·rw[bi (az (show¬fH l a>=0 by rw[bl];decide))];refine ae.ag.2 (.inr ⟨_,J,a0,?_⟩);have al:∀b:Nat,en l (a+1) b=en l a b:=λb=>(by rw[xc,ah (by rw[bl];omega)]);have N:aw l.length (λb=>(en l (a+1) b).map (gV l))=aw l.length (λb=>(en l a b).map (gV l)):=bI λb _=>(by rw[al]);have O:aw l.length (λb=>(en l (a+1) b).map (jG l (kp (be E c) G l a k)))=aw l.length (λb=>(en l a b).map (jG l k)):=bI λb _=>(by rw[al,Z]);rw[N,O]
    have ek:=Jp (l:=l) a b;rw[F,bo (aB (U:(b:Int)>=0))];refine ae.bs (dd (by rw[bk];exact q)) ?_;rw[dn q];refine ae.bs rfl ?_;rw[dQ (by simp;omega),aG];refine ae.bs (dd (by rw[bk];exact q)) ?_;rw[dn q];refine ae.bs rfl ?_;rw[dQ (by simp;omega),aG];refine ae.bs (dd (by rw[bk];exact q)) ?_;rw[bo ac,dn q];refine ae.bs rfl ?_;rw[dn q,e9];refine ae.bs rfl ?_;refine ae.bs (dd (by rw[bk];exact q)) ?_;rw[bo ac,dn q];refine ae.bs rfl ?_;rw[dn q,e9];refine ae.bs rfl ?_;refine ae.ag.2 (.inr ⟨_,J,a0,?_⟩);have N:aw l.length (bU (λb=>(en l a b).map (gV l)) b ((en l a b).map (gV l)++[gV l a]))=aw l.length (λb=>(en l (a+1) b).map (gV l)):=bI λam _=>by
     by_cases m:am=b
     ·rw[m,ei,xc,ai F,fN];rfl
     rw[ew _ _ m,xc,ah (by rw[F];omega)]
    have O:aw l.length (bU (λb=>(en l a b).map (jG l k)) b ((en l a b).map (jG l k)++[jG l (kp (be E c) G l a k) a]))=aw l.length (λb=>(en l (a+1) b).map (jG l (kp (be E c) G l a k))):=bI λam _=>by
     by_cases m:am=b
     ·rw[m,ei,xc,ai F,fN,Z];rfl
     rw[ew _ _ m,xc,ah (by rw[F];omega),Z]
    rw[N,O]
   rintro j (rfl|⟨H,w,x,rfl⟩)
   ·exact ae.ag.2 (.inl rfl)
   exact ae.ag.2 ⟨H,w,x,rfl⟩
  rintro _ ⟨k,K,B,rfl⟩;dsimp only;rw[bi (az (U:¬((l.length:Int)<(l.length:Int))))];have dl:aO l l.length=n:=(by rw[V.1.2,z]);rw[dl] at K|-;refine ae.ag.2 (.inr ⟨?_,CC K⟩);have:aw n (hZ (be E c) G n 0)=aw n (fZ (be E c) G):=bI λt C=>(by rw[HA,if_pos C]);rw[this]
 rintro j (rfl|⟨rfl,I⟩)
 ·exact ae.ag.2 rfl
 dsimp only;refine ae.bs (Kc u z U _ _) ?_;dsimp only;rw[I];exact ae.ag.2 rfl
end
section
def zr (c:Nat->Nat->Bool) (e d a b:Nat):Bool:=c a b||(decide (a=e)&&decide (b=d))
def J9 {n:Nat}:aw g (bU (λb=>aw n (d b)) a (aw n (bU (d a) c true)))=aw g (λb=>aw n (zr d a c b)):=
 bI λb _=>by
  by_cases e:b=a
  ·subst e;rw[ei];refine bI λh _=>?_;unfold zr;by_cases f:h=c
   ·subst f;rw[ei];simp
   rw[ew _ _ f];simp[f]
  rw[ew _ _ e];refine bI λh _=>?_;unfold zr;simp[e]
def km (a:Nat->Nat) (b:Nat):bW:=((a b:Int),(a (b+1):Int),[],-1,())
structure mE (G:adU) (n j F:Nat) (c:Nat->Nat) (T:Nat->Nat->Bool):Prop where
 z:c 0=0
 e:c F=j
 m:∀f,f<F->c f<c (f+1)
 t:∀f i,f<F->i<n->(T f i=true↔∃m,c f<=m/\m<c (f+1)/\(i:Int)∈bc G m)
def UC (f:∀d,d<a->h d<h (d+1)):∀c b,c<b->b<=a->h c<h b:=by
 intro c b j
 induction b with
 |zero=>omega
 |succ b i=>
  intro k;have g:=f b U;rcases bg c b with e|e
  ·have:=i e U;omega
  obtain rfl:c=b:=U;exact g
def Lc (d:∀c,c<a->h c<h (c+1)):∀b,b<=a->h 0+b<=h b:=by
 intro b
 induction b with
 |zero=>intro _;omega
 |succ b e=>
  intro g;have f:=d b U;have:=e U;omega
section
variable {G:adU} {n:Nat} (D:G.length=n) (B:da G) (H:n<=5) {A:ad5} (C:A.length<=9223372036854775807)
include D B H C
theorem RD:ae (loop (σ:=(Int×fv×List fw×Unit)) (ρ:=iR) (λ(q,W,J,_)=>
 bif decide (q<ay (aw n (bc G))) then
 Option.bind (α:=iR) (
 Option.bind (α:=iR) (
 Option.bind (α:=(Bool×fv×List fw×Unit)) (bif (q==0)==false then(ta (A,ar (900+q),())).bind λ(d3,_)=>
 (dk IntKind.u64 d3 7).bind λd6=>
 (gM d6 3).bind λd7=>
 some (decide (d7>0),W,J,()) else some (true,W,J,())) λ(d4,X,K,_)=>
  bif d4 then
 (bN (X.length+([(q,(aY q,(([]:aN),((-1:Int),()))))]).length)).bind λ_=>
 (dV (ay (aw n (bc G))) (ay (aw n (bc G)))).bind λa4=>
 (bN (K.length+([List.replicate a4 false]).length)).bind λ_=>
 some ((X++[(q,(aY q,(([]:aN),((-1:Int),()))))]),(K++[List.replicate a4 false]),()) else
 some (X,K,())) λ(D,co,_)=>
 (bh D.length (ar (ay D-1))).bind λan=>
 (aZ D an λZ=>some (D.set an (Z.1,(aY q,Z.2.2)))).bind λek=>
 (loop (σ:=(Int×fv×List fw×Unit)) (ρ:=iR) (λ(V,a0,x,_)=>
 (aC (aw n (bc G)) q).bind λd8=>
  bif decide (V<ay d8) then
 (bh x.length (ar (ay D-1))).bind λS=>
 (aC (aw n (bc G)) q).bind λd9=>
 (aC d9 V).bind λed=>
 ((aZ x S λbB=>some bB).bind λce=>bh ce.length ed).bind λap=>
 (aZ x S λab=>(aZ ab ap λ_=>some (ab.set ap true)).map λel=>x.set S el).bind λem=>
 some (.inl (aY V,a0,em,())) else
 some (.inr (a0,x,()))) (0,ek,co,())).bind λ(d0,cs,_)=>
 some (d0,cs,())) λ(d1,cv,_)=>
 some (.inl (aY q,d1,cv,())) else
 some (.inr (W,J,()))) (0,[],[],())) (λd2=>∃f i l,mE G n n f i l/\d2=(aw f (km i),aw f (λa=>aw n (l a)),())):=by
 refine ae.steps n (λc Y=>∃f i l,mE G n c f i l/\Y=((c:Int),aw f (km i),aw f (λa=>aw n (l a)),())) ⟨0,λ_=>0,λ_ _=>false,⟨rfl,rfl,λa j=>absurd j (uT _),λa d j=>absurd j (uT _)⟩,rfl⟩ ?_ ?_
 ·rintro c _ M ⟨f,i,l,p,rfl⟩;have ex:=Lc p.m f (Nat.le_refl _);have fn:=p.z;have L:=p.e;dsimp only;rw[a1,bk,bo (aB (U:(c:Int)<(n:Int))),bt U];refine ae.aU (P:=λu=>∃(b:Nat) (h:Nat->Nat) (r:Nat->Nat->Bool),h 0=0/\(∀a,a<b->h a<h (a+1))/\h b<=c/\b<=c/\(∀a d,a<b+1->d<n->(r a d=true↔∃k,h a<=k/\k<bU h (b+1) (c+1) (a+1)/\(d:Int)∈bc G k))/\u=(aw (b+1) (km (bU h (b+1) (c+1))),aw (b+1) (λa=>aw n (r a)),())) ?_ ?_
  ·refine ae.aU (P:=λu=>∃(b:Nat) (h:Nat->Nat) (r:Nat->Nat->Bool) (I:Int),h 0=0/\(∀a,a<b->h a<h (a+1))/\h b<=c/\b<=c/\(∀a d,a<b+1->d<n->(r a d=true↔∃k,h a<=k/\k<bU h (b+1) c (a+1)/\(d:Int)∈bc G k))/\u=(aw (b+1) (bU (km h) b ((h b:Int),I,[],-1,())),aw (b+1) (λa=>aw n (r a)),())) ?_ ?_
   ·refine ae.aU (P:=λu=>∃E:Bool,u=(E,aw f (km i),aw f (λa=>aw n (l a)),())/\(E=false->0<c)) ?_ ?_
    ·rw[dB];by_cases g:c=0
     ·rw[bi (by simp[g])];exact ae.ag.2 ⟨_,rfl,λj=>by cases j⟩
     rw[bo (by simp[g])];refine ae.aU (HV A C _) ?_;rintro⟨d5,_⟩ dl;dsimp only at dl|-;obtain⟨bd,ds⟩:∃bd,dk IntKind.u64 d5 7=some bd:=⟨_,if_pos aa⟩;refine ae.bs ds ?_;unfold gM;rw[if_pos aa,Option.bind_some];exact ae.ag.2 ⟨_,rfl,λ_=>by omega⟩
    rintro _ ⟨E,rfl,c1⟩;dsimp only;cases E with
    |true=>
     rw[cond_true,dQ (by rw[bk];simp;omega),aG];refine ae.bs (fU U) ?_;rw[dQ (by rw[bk];simp;omega),aG];refine ae.ag.2 ⟨f,i,(λa d=>if a<f then l a d else false),((c+1:Nat):Int),p.z,p.m,U,U,?_,?_⟩
     ·intro a d o s;dsimp only;by_cases g:a<f
      ·rw[ai g,ew _ _ U];exact p.t a d g s
      obtain rfl:a=f:=U;rw[ah g,ei];refine⟨λj=>(by cases j),λj=>?_⟩;obtain⟨k,F,a3,_⟩:=j;omega
     have al:aw f (km i)++[((c:Int),((c+1:Nat):Int),([]:ad5),(-1:Int),())]=aw (f+1) (bU (km i) f ((i f:Int),((c+1:Nat):Int),[],-1,())):=(by rw[nL,ei,L];congr 1;exact bI λa o=>(ew _ _ U).symm);have bl:aw f (λa=>aw n (l a))++[List.replicate n false]=aw (f+1) (λa=>aw n (λd=>if a<f then l a d else false)):=(by rw[nL,gU];simp only[Nat.lt_irrefl,if_false];congr 1;exact bI λa o=>bI λw _=>by rw[ai o]);rw[al,bl]
    |false=>
     have fs:=c1 rfl;rw[cond_false];obtain⟨b,rfl⟩:∃b,f=b+1:=⟨f-1,by
      rcases gk f with g|g
      ·subst g;omega
      omega⟩
     have ft:=p.m b U;refine ae.ag.2 ⟨b,i,l,(c:Int),p.z,λa o=>p.m a U,U,U,?_,?_⟩
     ·intro a d o s;rw[p.t a d o s];by_cases g:a=b
      ·subst g;rw[ei,L]
      rw[ew _ _ U]
     congr 1;refine bI λa o=>?_;by_cases g:a=b
     ·subst g;rw[ei];unfold km;rw[L]
     rw[ew _ _ g]
   rintro _ ⟨b,h,r,I,O,Q,R,av,T,rfl⟩;dsimp only;rw[a1,bk,show ar (((b+1:Nat):Int)-1)=(b:Int) by rw[(U:((b+1:Nat):Int)-1=(b:Int)),bm U U]];refine ae.bs (dd (Nat.lt_succ_self b)) ?_;rw[dn (Nat.lt_succ_self b),ei,e9];refine ae.bs rfl ?_;have al:aw (b+1) (bU (bU (km h) b ((h b:Int),I,[],-1,())) b ((h b:Int),((c+1:Nat):Int),[],-1,()))=aw (b+1) (km (bU h (b+1) (c+1))):=bI λa o=>by
    by_cases g:a=b
    ·subst g;rw[ei];unfold km;rw[ei,ew _ _ U]
    rw[ew _ _ g,ew _ _ g];unfold km;rw[ew _ _ U,ew _ _ U]
   dsimp only;rw[al];have c2:∀v,(j:v<(bc G c).length)->∃d:Nat,(bc G c)[v]=(d:Int)/\d<n:=λv j=>(by obtain⟨d,ci,eq,_⟩:=EL B (List.getElem_mem j);exact⟨d,ci,U⟩);have fp:(bc G c).length<=n:=(by have:=Rj G c;omega);refine ae.aU (P:=λu=>u=(aw (b+1) (km (bU h (b+1) (c+1))),aw (b+1) (λa=>aw n (λw=>r a w||(decide (a=b)&&decide ((w:Int)∈bc G c)))),())) ?_ ?_
   ·refine ae.steps (bc G c).length (λv Y=>Y=((v:Int),aw (b+1) (km (bU h (b+1) (c+1))),aw (b+1) (λa=>aw n (λw=>r a w||(decide (a=b)&&decide ((w:Int)∈(bc G c).take v)))),())) ?_ ?_ ?_
    ·simp
    ·rintro v _ N rfl;dsimp only;refine ae.bs (tC M) ?_;rw[a1,bo (aB (U:(v:Int)<((bc G c).length:Int))),bk];refine ae.bs (dd (Nat.lt_succ_self b)) ?_;refine ae.bs (tC M) (ae.bs (bQ N) ?_);obtain⟨d,s,am⟩:=c2 v N;rw[s,dn (Nat.lt_succ_self b)];refine ae.bs (y:=d) (by rw[Option.bind_some,bk];exact dd am) ?_;rw[dn (Nat.lt_succ_self b),dn am,e9,Option.map_some,e9,J9,bt U];refine ae.bs rfl (ae.ag.2 ?_);congr 3;refine bI λa _=>bI λw _=>?_;unfold zr;rw[List.take_add_one,List.getElem?_eq_getElem N,s];by_cases g:a=b
     ·by_cases ad:w=d
      ·simp[g,ad]
      have:¬((w:Int)=(d:Int)):=U;simp[g,ad,this]
     simp[g]
    rintro _ rfl;dsimp only;refine ae.bs (tC M) ?_;rw[a1,bi (az (U:¬(((bc G c).length:Nat):Int)<((bc G c).length:Int))),List.take_length];exact ae.ag.2 rfl
   rintro _ rfl;dsimp only;refine ae.ag.2 ⟨b,h,_,O,Q,R,av,?_,rfl⟩;intro a d o s;rw[Bool.or_eq_true,T a d o s];by_cases g:a=b
   ·subst g;rw[ei,ei];simp only[decide_true,Bool.true_and,decide_eq_true_eq];constructor
    ·rintro(⟨k,F,a3,H⟩|j)
     ·exact⟨k,F,U,H⟩
     exact⟨c,R,U,j⟩
    rintro⟨k,F,a3,H⟩;rcases bg k c with u|u
    ·exact .inl ⟨k,F,u,H⟩
    obtain rfl:k=c:=U;exact .inr H
   rw[ew _ _ U,ew _ _ U];simp[g]
  rintro _ ⟨b,h,r,O,Q,R,av,T,rfl⟩;dsimp only;refine ae.ag.2 ⟨b+1,bU h (b+1) (c+1),r,⟨?_,ei _ _ _,?_,?_⟩,rfl⟩
  ·rw[ew _ _ U];exact O
  ·intro a o;rw[ew _ _ (U:a≠b+1)];by_cases g:a=b
   ·subst g;rw[ei];omega
   rw[ew _ _ U];exact Q a U
  intro a d o s;rw[ew _ _ (U:a≠b+1)];exact T a d o s
 rintro _ ⟨f,i,l,p,rfl⟩;dsimp only;rw[a1,bk,bi (az (U:¬((n:Int)<(n:Int))))];exact ae.ag.2 ⟨f,i,l,p,rfl⟩
end
end
section
def aaa {d:Type} (a:Nat->d) (b:Nat):bU a b (a b)=a:=by
 funext e;unfold bU;split
 ·rename_i c;rw[c]
 rfl
def OU {d:Type} (b:Nat->d) (a:Nat) (e c:d):bU (bU b a e) a c=bU b a c:=by funext f;unfold bU;split<;>rfl
def gg (a:Nat->Nat->Bool) (b c:Nat):ad5:=((List.range c).filter (a b)).map λd:Nat=>(d:Int)
def N0:gg d c (a+1)=if d c a=true then gg d c a++[(a:Int)] else gg d c a:=by unfold gg;rw[iP,jc];cases b:d c a<;>simp[b]
def NZ {T:Nat->Nat->Bool} {f i:Nat}:(gg T f i).length<=i:=by unfold gg;rw[gE];exact dh (ip _ _) ac
def ow (c:Nat->Nat) (F:Nat) (e:Nat->Nat->Bool) (b g:Nat) (h:Int):Prop:=
 (h=-1/\∀a,a<g->e b a=true->a<c (b+1))\/
 (∃a d:Nat,a<g/\e b a=true/\c (b+1)<=a/\(∀f,f<a->e b f=true->f<c (b+1))/\h=(d:Int)/\b<d/\d<F/\c d<=a/\a<c (d+1))
def jr (c:Nat->Nat) (b:Nat->Nat->Bool) (d f:Nat) (g:Int) (e a:Nat):Bool:=b e a||(decide (g=(e:Int))&&decide (c (d+1)<=a)&&decide (a<f)&&b d a)
structure lT (G:adU) (n F:Nat) (c:Nat->Nat) (uW:Nat->Nat->Bool) (f:Nat) (T:Nat->Nat->Bool) (g:Nat->bW):Prop where
 sub:∀m x,m<F->x<n->uW m x=true->T m x=true
 sup:∀m x,m<F->x<n->T m x=true->c m<=x
 rZ:∀m,m<f->∃q,ow c F T m n q/\g m=((c m:Int),(c (m+1):Int),gg T m n,q,())/\∀p:Nat,q=(p:Int)->∀x,c (m+1)<=x->x<n->T m x=true->T p x=true
 new:∀m,f<=m->m<F->g m=km c m
section
variable {G:adU} {n F:Nat} {c:Nat->Nat} {uW:Nat->Nat->Bool} (C:G.length=n) (B:da G) (D:n<=5) (A:mE G n n F c uW)
include C B D A
theorem mE.wP:F<=n:=by have:=Lc A.m F (a2 _);have:=A.e;omega
theorem mE.le (e:g<=a) (d:a<=F):c g<=c a:=by
 rcases bg g a with b|b
 ·exact pD (UC A.m g a b d)
 obtain rfl:g=a:=U;exact a2 _
theorem mE.own (i:a<n):∃b,b<F/\c b<=a/\a<c (b+1):=by
 have k:∀d,d<=F->a<c d->∃b,b<d/\c b<=a/\a<c (b+1):=by
  intro d
  induction d with
  |zero=>intro _ f;rw[A.z] at f;omega
  |succ d j=>
   intro m f;by_cases g:c d<=a
   ·exact⟨d,U,g,f⟩
   obtain⟨b,l,h⟩:=j U U;exact⟨b,U,h⟩
 exact k F (a2 _) (by rw[A.e];exact i)
theorem mE.sup (e:a<F) (f:g<n) (b:uW a g=true):c a<=g:=by obtain⟨m,h,i,d⟩:=(A.t a g e f).1 b;obtain⟨l,k,_,j⟩:=EL B d;omega
theorem mE.diag (f:a<F) (b:c a<=g) (d:g<c (a+1)):uW a g=true:=by have i:=A.le C B D (U:a+1<=F) (a2 _);have j:=A.e;obtain⟨k,h,_⟩:=JC B (U:g<G.length);exact(A.t a g f U).2 ⟨g,b,d,by rw[h];exact jB⟩
theorem XA {T:Nat->Nat->Bool} {e:Nat} (t:a<F) (J:e<n) (an:c (a+1)<=e) {g:Nat->bW} {has:List fw} (I:∀b,b<F->(g b).1=(c b:Int)/\(g b).2.1=(c (b+1):Int)):ae (loop (σ:=(Int×fv×List fw×Unit)) (ρ:=iR) (λ(j,h,q,_)=>
 bif decide (j<ay h) then
 Option.bind (α:=iR) (
 Option.bind (α:=(Bool×fv×List fw×Unit)) (
 (bh h.length j).bind λK=>
 (aZ h K λz=>some z.1).bind λV=>
  bif decide ((e:Int)>=V)==true then(bh h.length j).bind λL=>
 (aZ h L λE=>some E.2.1).bind λW=>
 some (decide ((e:Int)<W),h,q,()) else some (false,h,q,())) λ(S,o,s,_)=>
  bif S then
 (bh o.length (a:Int)).bind λv=>
 (aZ o v λm=>some (o.set v (m.1,(m.2.1,(m.2.2.1,(j,m.2.2.2.2)))))).bind λX=>
 some (X,s,()) else
 some (o,s,())) λ(M,G,_)=>
 some (.inl (aY j,M,G,())) else
 some (.inr (h,q,()))) (aY (a:Int),aw F g,has,())) (λQ=>∃d:Nat,a<d/\d<F/\c d<=e/\e<c (d+1)/\Q=(aw F (bU g a ((g a).1,(g a).2.1,(g a).2.2.1,(d:Int),())),has,())):=by
 have ab:=A.wP C B D;obtain⟨d,w,N,O⟩:=A.own C B D J;have H:a<d:=by
  rcases bg a d with f|f
  ·exact f
  have:=A.le C B D (U:d+1<=a+1) U;omega
 refine(ae.steps (F-(a+1)) (λl R=>R=(((a+1+l:Nat):Int),aw F (if d<a+1+l then bU g a ((g a).1,(g a).2.1,(g a).2.2.1,(d:Int),()) else g),has,())) ?_ ?_ ?_)
 ·rw[bt U,ah U]
 ·rintro l _ ad rfl;dsimp only;generalize am:a+1+l=b;have k:b<F:=U;rw[a1,bk,bo (aB (U:(b:Int)<(F:Int)))];generalize r:(if d<b then bU g a ((g a).1,(g a).2.1,(g a).2.2.1,(d:Int),()) else g)=p;have u:(p b)=g b:=by
   rw[<-r];split
   ·rw[ew _ _ U]
   rfl
  obtain⟨x,y⟩:=I b k;refine ae.aU (P:=λf=>f=(aw F (if d<b+1 then bU g a ((g a).1,(g a).2.1,(g a).2.2.1,(d:Int),()) else g),has,())) ?_ ?_
  ·refine ae.aU (P:=λf=>f=(decide (b=d),aw F p,has,())) ?_ ?_
   ·refine ae.bs (dd k) ?_;rw[dn k,u,x];refine ae.bs rfl ?_;by_cases Y:c b<=e
    ·rw[bo (by rw[aB (U:(e:Int)>=(c b:Int))];rfl)];refine ae.bs (dd k) ?_;rw[dn k,u,y];refine ae.bs rfl (ae.ag.2 ?_);by_cases i:b=d
     ·rw[aB i,aB (show(e:Int)<(c (b+1):Int) by rw[i];omega)]
     have:¬e<c (b+1):=λZ=>by
      rcases bg b d with f|f
      ·have:=A.le C B D (U:b+1<=d) U;omega
      have:=A.le C B D (U:d+1<=b) U;omega
     rw[az i,az (U:¬(e:Int)<(c (b+1):Int))]
    rw[bi (by rw[az (U:¬(e:Int)>=(c b:Int))];rfl),az (show¬b=d by rintro rfl;omega)];exact ae.ag.2 rfl
   rintro _ rfl;dsimp only;by_cases i:b=d
   ·rw[bo (aB i)];refine ae.bs (dd (by rw[bk];exact t)) ?_;have:p=g:=(by rw[<-r,ah U]);rw[this,dn t,e9,ai U,i];exact ae.bs rfl (ae.ag.2 rfl)
   rw[bi (az i)];refine ae.ag.2 ?_;rw[<-r];congr 2;by_cases f:d<b
   ·rw[ai f,ai U]
   rw[ah f,ah U]
  rintro _ rfl;dsimp only;rw[bt U,(U:a+1+(l+1)=b+1)];exact ae.ag.2 rfl
 rintro _ rfl;dsimp only;rw[a1,bk,(U:a+1+(F-(a+1))=F),bi (az (U:¬((F:Int)<(F:Int)))),if_pos w];exact ae.ag.2 ⟨d,H,w,N,O,rfl⟩
theorem YP {s:Nat->bW} (o:a<F) (X:lT G n F c uW a d s):ae (loop (σ:=(Int×fv×List fw×Unit)) (ρ:=iR) (λ(u,x,E,_)=>
 bif decide (u<ay (aw n (bc G))) then
 Option.bind (α:=iR) (
 (bh E.length (a:Int)).bind λc2=>
 ((aZ E c2 λd5=>some d5).bind λd6=>bh d6.length u).bind λf8=>
 (aZ E c2 λd7=>aZ d7 f8 λd8=>some d8).bind λic=>
  bif !ic then
 some (x,E,()) else
 (bh x.length (a:Int)).bind λdl=>
 (aZ x dl λd9=>some d9.2.2.1).bind λhs=>
 (bN (hs.length+([u]).length)).bind λ_=>
 (bh x.length (a:Int)).bind λZ=>
  bif Nat.beq dl Z&&true then
 (aZ x Z λed=>some ed.2.2.1).bind λhv=>
 (aZ x Z λam=>some (x.set Z (am.1,(am.2.1,((hv++[u]),am.2.2.2))))).bind λO=>
 Option.bind (α:=iR) (
 Option.bind (α:=(Bool×fv×List fw×Unit)) (
 (bh O.length (a:Int)).bind λf9=>
 (aZ O f9 λek=>some ek.2.1).bind λid=>
  bif decide (u>=id)==true then(bh O.length (a:Int)).bind λgc=>
 (aZ O gc λel=>some el.2.2.2.1).bind λii=>
 some (decide (ii<0),O,E,()) else some (false,O,E,())) λ(hi,d0,ce,_)=>
  bif hi then
 (loop (σ:=(Int×fv×List fw×Unit)) (ρ:=iR) (λ(Q,z,ap,_)=>
  bif decide (Q<ay z) then
 Option.bind (α:=iR) (
 Option.bind (α:=(Bool×fv×List fw×Unit)) (
 (bh z.length Q).bind λge=>
 (aZ z ge λem=>some em.1).bind λio=>
  bif decide (u>=io)==true then(bh z.length Q).bind λgf=>
 (aZ z gf λeq=>some eq.2.1).bind λis=>
 some (decide (u<is),z,ap,()) else some (false,z,ap,())) λ(hr,ab,ci,_)=>
  bif hr then
 (bh ab.length (a:Int)).bind λds=>
 (aZ ab ds λW=>some (ab.set ds (W.1,(W.2.1,(W.2.2.1,(Q,W.2.2.2.2)))))).bind λi2=>
 some (i2,ci,()) else
 some (ab,ci,())) λ(go,fT,_)=>
 some (.inl (aY Q,go,fT,())) else
 some (.inr (z,ap,()))) (aY (a:Int),d0,ce,())).bind λ(gi,ft,_)=>
 some (gi,ft,()) else
 some (d0,ce,())) λ(M,R,_)=>
 (bh M.length (a:Int)).bind λf6=>
 (aZ M f6 λd1=>some d1.2.1).bind λhw=>
  bif decide (u>=hw) then
 (bh M.length (a:Int)).bind λf7=>
 (aZ M f7 λd2=>some d2.2.2.2.1).bind λib=>
 (bh R.length ib).bind λa3=>
 ((aZ R a3 λd3=>some d3).bind λd4=>bh d4.length u).bind λc1=>
 (aZ R a3 λa4=>(aZ a4 c1 λ_=>some (a4.set c1 true)).map λi0=>R.set a3 i0).bind λi1=>
 some (M,i1,()) else
 some (M,R,()) else none) λ(gl,fz,_)=>
 some (.inl (aY u,gl,fz,())) else
 some (.inr (x,E,()))) ((c a:Int),aw F s,aw F (λa=>aw n (d a)),())) (λI=>∃k,ow c F d a n k/\I=(aw F (bU s a ((c a:Int),(c (a+1):Int),gg d a n,k,())),aw F (λj=>aw n (jr c d a n k j)),())):=by
 have jp:=A.wP C B D;have kg:=A.le C B D (U:a+1<=F) (a2 _);have kd:=A.e;have lb:=A.m a o;have f2:s a=km c a:=X.new a (a2 _) o;have f1:∀j,j<F->(s j).1=(c j:Int)/\(s j).2.1=(c (j+1):Int):=λj a0=>by
  rcases bg j a with l|l
  ·obtain⟨k,_,v,_⟩:=X.rZ j l;rw[v];exact⟨rfl,rfl⟩
  rw[X.new j l a0];exact⟨rfl,rfl⟩
 refine ae.steps (n-c a) (λH hc=>∃k,ow c F d a (c a+H) k/\hc=(((c a+H:Nat):Int),aw F (bU s a ((c a:Int),(c (a+1):Int),gg d a (c a+H),k,())),aw F (λj=>aw n (jr c d a (c a+H) k j)),())) ?_ ?_ ?_
 ·have al:gg d a (c a)=[]:=by
   unfold gg;rw[wU.2 λh Y l=>?_]
   ·rfl
   have J:=fe.1 Y;have:=X.sup a h o U l;omega
  refine⟨-1,.inl ⟨rfl,λh Y l=>?_⟩,?_⟩
  ·omega
  rw[j6,al];congr 2
  ·have:bU s a ((c a:Int),(c (a+1):Int),([]:ad5),(-1:Int),())=s:=by
    rw[show((c a:Int),(c (a+1):Int),([]:ad5),(-1:Int),())=s a from f2.symm,aaa]
   rw[this]
  congr 1;refine bI λj _=>bI λh _=>?_;unfold jr;rw[az (U:¬(-1:Int)=(j:Int))];simp
 ·rintro H _ la ⟨k,L,rfl⟩;dsimp only;generalize k0:c a+H=b at*;have S:b<n:=U;rw[a1,bk,bo (aB (U:(b:Int)<(n:Int))),(U:c a+(H+1)=b+1)];have f3:jr c d a b k a b=d a b:=by
   unfold jr;rw[az (U:¬b<b)];simp
  refine ae.aU (P:=λI=>∃r,ow c F d a (b+1) r/\I=(aw F (bU s a ((c a:Int),(c (a+1):Int),gg d a (b+1),r,())),aw F (λj=>aw n (jr c d a (b+1) r j)),())) ?_ ?_
  ·refine ae.bs (dd (by rw[bk];exact o)) ?_;rw[dn o];refine ae.bs (y:=b) (by rw[aG,bk];exact dd S) ?_;rw[dn o,dn S,f3];refine ae.bs rfl ?_;cases K:d a b with
   |false=>
    rw[bo (by rfl)];refine ae.ag.2 ⟨k,?_,?_⟩
    ·rcases L with⟨ax,r⟩|⟨h,q,ax,r⟩
     ·refine .inl ⟨ax,λh Y l=>?_⟩;rcases bg h b with p|p
      ·exact r h p l
      obtain rfl:h=b:=U;rw[K] at l;cases l
     exact .inr ⟨h,q,U,r⟩
    rw[N0,K,ah aa];congr 2;refine bI λj _=>bI λh _=>?_;unfold jr;congr 1;by_cases p:h=b
    ·rw[p,K];simp
    by_cases t:h<b
    ·rw[aB t,aB (U:h<b+1)]
    rw[az t,az (U:¬h<b+1)]
   |true=>
    rw[bi (by rfl)];refine ae.bs (dd (by rw[bk];exact o)) ?_;rw[dn o,ei];refine ae.bs rfl ?_;have lk:=NZ (T:=d) (f:=a) (i:=b);rw[dQ (by simp;omega),Option.bind_some];refine ae.bs (dd (by rw[bk];exact o)) ?_;rw[bo (by rw[Nat.beq_refl];rfl),dn o,ei];refine ae.bs rfl ?_;rw[dn o,ei,e9,OU];refine ae.bs rfl ?_;have f5:gg d a b++[(b:Int)]=gg d a (b+1):=(by rw[N0,if_pos K]);dsimp only;rw[f5];refine ae.aU (P:=λI=>∃r,I=(aw F (bU s a ((c a:Int),(c (a+1):Int),gg d a (b+1),r,())),aw F (λj=>aw n (jr c d a b k j)),())/\((b<c (a+1)/\r=k)\/(c (a+1)<=b/\∃q:Nat,r=(q:Int)/\q<F/\(k=r\/(k=-1/\∀h,h<b->d a h=true->h<c (a+1)))))/\ow c F d a (b+1) r) ?_ ?_
    ·refine ae.aU (P:=λI=>∃V:Bool,I=(V,aw F (bU s a ((c a:Int),(c (a+1):Int),gg d a (b+1),k,())),aw F (λj=>aw n (jr c d a b k j)),())/\(V=true↔c (a+1)<=b/\k<0)) ?_ ?_
     ·refine ae.bs (dd (by rw[bk];exact o)) ?_;rw[dn o,ei];refine ae.bs rfl ?_;dsimp only;by_cases p:c (a+1)<=b
      ·rw[bo (by rw[aB (U:(b:Int)>=(c (a+1):Int))];rfl)];refine ae.bs (dd (by rw[bk];exact o)) ?_;rw[dn o,ei];refine ae.bs rfl (ae.ag.2 ⟨_,rfl,?_⟩);rw[decide_eq_true_eq];exact⟨λl=>⟨p,l⟩,λl=>l.2⟩
      rw[bi (by rw[az (U:¬(b:Int)>=(c (a+1):Int))];rfl)];exact ae.ag.2 ⟨_,rfl,λl=>(by cases l),λl=>absurd l.1 p⟩
     rintro _ ⟨V,rfl,av⟩;dsimp only;cases V with
     |true=>
      obtain⟨ad,i3⟩:=av.1 rfl;rw[cond_true];have cs:k=-1/\∀h,h<b->d a h=true->h<c (a+1):=by
       rcases L with l|⟨h,q,J,v,fn,fp,bB,_⟩
       ·exact l
       omega
      refine ae.aU (XA (T:=d) C B D A o S ad (g:=bU s a ((c a:Int),(c (a+1):Int),gg d a (b+1),k,())) (has:=aw F (λj=>aw n (jr c d a b k j))) (λj a0=>?_)) ?_
      ·by_cases t:j=a
       ·subst t;rw[ei];exact⟨rfl,rfl⟩
       rw[ew _ _ t];exact f1 j a0
      rintro _ ⟨q,gs,N,gt,gv,rfl⟩;dsimp only;refine ae.ag.2 ⟨(q:Int),?_,.inr ⟨ad,q,rfl,N,.inr cs⟩,.inr ⟨b,q,U,K,ad,cs.2,rfl,gs,N,gt,gv⟩⟩;rw[ei,OU]
     |false=>
      rw[cond_false];refine ae.ag.2 ⟨k,rfl,?_,?_⟩
      ·rcases bg b (c (a+1)) with p|p
       ·exact .inl ⟨p,rfl⟩
       refine .inr ⟨p,?_⟩;rcases L with l|⟨h,q,J,v,fn,fp,bB,i8,fs,_⟩
       ·have:=av.2 ⟨p,U⟩;cases this
       exact⟨q,bB,fs,.inl rfl⟩
      rcases L with⟨J,v⟩|⟨h,q,J,v⟩
      ·refine .inl ⟨J,λh Y an=>?_⟩;rcases bg h b with t|t
       ·exact v h t an
       obtain rfl:h=b:=U;rcases bg h (c (a+1)) with p|p
       ·exact p
       have:=av.2 ⟨p,U⟩;cases this
      exact .inr ⟨h,q,U,v⟩
    rintro _ ⟨r,rfl,f0,co⟩;dsimp only;refine ae.bs (dd (by rw[bk];exact o)) ?_;rw[dn o,ei];refine ae.bs rfl ?_;dsimp only;rcases f0 with⟨p,rfl⟩|⟨p,q,rfl,N,cv⟩
    ·rw[bi (az (U:¬(b:Int)>=(c (a+1):Int)))];refine ae.ag.2 ⟨r,co,?_⟩;congr 2;refine bI λj _=>bI λh _=>?_;unfold jr;congr 1;by_cases t:c (a+1)<=h
     ·by_cases w:h<b
      ·rw[aB w,aB (U:h<b+1)]
      rw[az w,az (U:¬h<b+1)]
     rw[az t];simp
    rw[bo (aB (U:(b:Int)>=(c (a+1):Int)))];refine ae.bs (dd (by rw[bk];exact o)) ?_;rw[dn o,ei];refine ae.bs rfl ?_;dsimp only;refine ae.bs (dd (by rw[bk];exact N)) ?_;rw[dn N];refine ae.bs (y:=b) (by rw[Option.bind_some,bk];exact dd S) ?_;rw[dn N,dn S,e9,Option.map_some,e9,J9];refine ae.bs rfl (ae.ag.2 ⟨(q:Int),co,?_⟩);congr 2;refine bI λj _=>bI λh _=>?_;unfold zr jr;by_cases bd:j=q
    ·subst bd;by_cases bl:h=b
     ·subst bl;rw[K];simp[p]
     have ex:decide (h<b+1)=decide (h<b):=by
      by_cases w:h<b
      ·rw[aB w,aB (U:h<b+1)]
      rw[az w,az (U:¬h<b+1)]
     rw[ex,az bl,aB rfl,Bool.and_false,Bool.or_false,aB rfl];rcases cv with l|⟨J,v⟩
     ·rw[aB l]
     rw[az (U:¬k=(j:Int))];cases an:d a h with
     |false=>simp
     |true=>
      by_cases w:h<b
      ·rw[az (show¬c (a+1)<=h by have:=v h w an;omega)];simp
      rw[az w];simp
    rw[az bd,az (U:¬((q:Int)=(j:Int))),az (show¬k=(j:Int) by rcases cv with l|⟨l,_⟩<;>omega)];simp
  rintro _ ⟨r,f4,rfl⟩;dsimp only;rw[bt U];exact ae.ag.2 ⟨r,f4,rfl⟩
 rintro _ ⟨k,L,rfl⟩;dsimp only;rw[(U:c a+(n-c a)=n)] at*;rw[a1,bk,bi (az (U:¬((n:Int)<(n:Int))))];exact ae.ag.2 ⟨k,L,rfl⟩
end
end
section
def ow.congr {c:Nat->Nat} {F:Nat} {b:Int} (f:d a=e a) (h:ow c F d a g b):ow c F e a g b:=by unfold ow at*;rw[<-f];exact h
def NY (b:d a=e a):gg d a c=gg e a c:=by unfold gg;rw[b]
section
variable {G:adU} {n F:Nat} {c:Nat->Nat} {A:Nat->Nat->Bool} (B:G.length=n) (C:da G) (D:n<=5) (H:mE G n n F c A)
include B C D H
theorem lT.next (N:a<F) (m:lT G n F c A a d i) {g:Int} (r:ow c F d a n g):lT G n F c A (a+1) (jr c d a n g) (bU i a ((c a:Int),(c (a+1):Int),gg d a n,g,())):=by
 have j:∀b,b<=a->jr c d a n g b=d b:=λb h=>by
  funext f;unfold jr;have:¬g=(b:Int):=by rcases r with⟨e,_⟩|⟨f,l,_,_,_,_,e,p,_⟩<;>omega
  rw[az this];simp
 have x:∀b f,d b f=true->jr c d a n g b f=true:=λb f e=>(by unfold jr;rw[e];rfl);refine⟨λb f h s e=>x _ _ (m.sub b f h s e),λb f h s e=>?_,λb h=>?_,λb h C=>?_⟩
 ·unfold jr at e;rw[fK] at e;rcases e with e|e
  ·exact m.sup b f h s e
  simp only[bp,decide_eq_true_eq] at e;obtain⟨⟨⟨v,p⟩,w⟩,B⟩:=e;rcases r with⟨ax,_⟩|⟨y,l,D,E,H,z,I,J,K,L,M⟩
  ·omega
  have:y<=f:=by
   rcases bg f y with o|o
   ·have:=z f o B;omega
   exact o
  have:b=l:=U;subst this;omega
 ·rcases bg b a with e|e
  ·obtain⟨ax,v,p,w⟩:=m.rZ b e;refine⟨ax,v.congr (j b U).symm,?_,λl q f t u k=>?_⟩
   ·rw[ew _ _ U,p,NY (j b U)]
   rw[j b U] at k;exact x _ _ (w l q f t u k)
  obtain rfl:b=a:=U;refine⟨g,r.congr (j b U).symm,?_,λl q f t u k=>?_⟩
  ·rw[ei,NY (j b U)]
  rw[j b U] at k;unfold jr;rw[aB q,aB t,aB u,k];simp
 rw[ew _ _ U];exact m.new b U C
end
def FJ {i:bJ} {j l:ad5} {aR:bJ} {m:Int} {k:adU} {o:Int} {G:adU} {p:Int} {n:Nat} (B:G.length=n) (C:da G) (D:n<=5) (t:l.length<=9223372036854775807) (q:rf (i,())=some (aR,m,())) (r:rh (aR,())=some ((k,()),o,())) (s:p0 ((k,()),j,())=some ((G,()),p,())):ae (xO (i,j,l,())) (λh=>∃F c A b a,mE G n n F c A/\lT G n F c A F b a/\h=(aw F a,())):=by
 unfold xO;refine ae.bs q (ae.bs r (ae.bs s ?_));refine ae.bs (Ys C U) ?_;dsimp only;rw[B];refine ae.aU (RD B C D t) ?_;rintro _ ⟨F,c,A,H,rfl⟩;dsimp only;have z:=H.wP B C D;refine ae.aU (P:=λh=>∃b a,lT G n F c A F b a/\h=(aw F a,())) ?_ ?_
 ·refine ae.steps F (λd y=>∃b a,lT G n F c A d b a/\y=((d:Int),aw F a,aw F (λd=>aw n (b d)),())) ⟨A,km c,⟨λ_ _ _ _ f=>f,λx I u w f=>H.sup B C D u w f,λx f=>absurd f (uT _),λ_ _ _=>rfl⟩,rfl⟩ ?_ ?_
  ·rintro d _ g ⟨b,a,e,rfl⟩;dsimp only;rw[a1,bk F,bo (aB (U:(d:Int)<(F:Int)))];refine ae.bs (dd g) ?_;rw[dn g,e.new d (Nat.le_refl _) g];refine ae.bs rfl ?_;refine ae.aU (YP B C D H g e) ?_;rintro _ ⟨E,v,rfl⟩;dsimp only;rw[bt U];exact ae.ag.2 ⟨_,_,e.next B C D H g v,rfl⟩
  rintro _ ⟨b,a,e,rfl⟩;dsimp only;rw[a1,bk F,bi (az (U:¬((F:Int)<(F:Int))))];exact ae.ag.2 ⟨b,a,e,rfl⟩
 rintro _ ⟨b,a,e,rfl⟩;exact ae.ag.2 ⟨F,c,A,b,a,H,e,rfl⟩
def SL {P:Nat->Bool} {a b:Nat} (j:∀c,c<a->P c=false) (k:∀c,a<=c->c<b->P c=true) (l:a<=b):∀f,(List.range (b+f)).filter P=List.range' a (b-a)++(((List.range (b+f)).filter P).filter λc=>decide (b<=c)):=by
 have i:∀e,a+e<=b->(List.range (a+e)).filter P=List.range' a e:=by
  intro e
  induction e with
  |zero=>
   intro _;rw[wU.2]
   ·rfl
   intro c g d;rw[j c (by have:=fe.1 g;omega)] at d;cases d
  |succ e h=>
   intro d;rw[<-oo,iP,jc,h U,pw (k _ U U),px,List.range'_concat];simp
 intro f
 induction f with
 |zero=>
  have:=i (b-a) U;rw[(U:a+(b-a)=b)] at this;rw[j6,this,wU.2 (λc g d=>?_),kB];have:=List.mem_range'_1.1 g;rw[decide_eq_true_eq] at d;omega
 |succ f h=>
  rw[<-oo,iP,jc,jc,<-mG,<-h];congr 1;cases d:P (b+f)<;>simp[d]
end
section
section
variable {G:adU} {n F:Nat} {c:Nat->Nat} {I T:Nat->Nat->Bool} {g:Nat->bW} (C:G.length=n) (D:da G) (H:n<=5) (A:mE G n n F c I) (B:lT G n F c I F T g)
include C D H A B
theorem lT.aO {a:Nat} (e:a<=F):aO (aw F g) a=c a:=by
 cases a with
 |zero=>exact A.z.symm
 |succ a=>
  obtain⟨f,_,b,_⟩:=B.rZ a U;show(Option.map (λd:bW=>d.2.1.toNat) (aw F g)[a]?).getD 0=c (a+1);rw[rr U,b];rfl
theorem Gl {k x:Nat}:(x:Int)∈gg T k n↔x<n/\T k x=true:=by
 unfold gg;rw[de];constructor
 ·rintro⟨d,a,e⟩;obtain rfl:d=x:=U;rw[eY,fe] at a;exact a
 rintro⟨b,c⟩;exact⟨x,eY.2 ⟨fe.2 b,c⟩,rfl⟩
theorem NX (a:Nat):(gg T a n).Pairwise (· < ·):=by unfold gg;rw[sz];exact(List.pairwise_lt_range.filter _).imp λb=>by omega
theorem lT.rows {f:Nat} (h:f<F):∃k:ad4,gg T f n=(List.range' (c f) (c (f+1)-c f)++k).map (λd:Nat=>(d:Int))/\∀d,d∈k↔c (f+1)<=d/\d<n/\T f d=true:=by
 have q:=A.le C D H (U:f+1<=F) (a2 _);have r:=A.e;have s:=A.m f h;have:=SL (P:=λd=>decide (d<n)&&T f d) (a:=c f) (b:=c (f+1)) (λd i=>by
  by_cases j:d<n
  ·cases g:T f d with
   |false=>simp
   |true=>have:=B.sup f d h j g;omega
  simp[j]) (λd o p=>by
  show(decide (d<n)&&T f d)=true;rw[aB (U:d<n),B.sub f d h U (A.diag C D H h o p)];rfl) U (n-c (f+1))
 rw[(U:c (f+1)+(n-c (f+1))=n)] at this;have l:(List.range n).filter (λd=>decide (d<n)&&T f d)=(List.range n).filter (T f):=sv λd i=>(by rw[aB (fe.1 i),Bool.true_and]);rw[l] at this;refine⟨((List.range n).filter (T f)).filter λd=>decide (c (f+1)<=d),?_,?_⟩
 ·unfold gg;rw[<-this]
 intro d;rw[eY,eY,fe,decide_eq_true_eq];exact⟨λg=>⟨g.2,g.1.1,g.1.2⟩,λg=>⟨⟨g.2.1,g.2.2⟩,g.1⟩⟩
theorem lT.SS:gY G (aw F g):=by
 have d3:=A.wP C D H;have ci:=A.e;have v:∀a,a<=F->h2.aO (aw F g) a=c a:=λa d=>B.aO C D H A d;have ad:kz n (aw F g):=by
  refine⟨λa d=>?_,by rw[bk,v F (a2 _),ci]⟩;rw[bk] at d;obtain⟨W,_,h,_⟩:=B.rZ a d;have N:=A.m a d;have d2:=A.le C D H (U:a+1<=F) (a2 _);refine⟨g a,rr d,?_,?_,?_⟩
  ·rw[h,v a U]
  ·rw[h,v a U];show(c a:Int)<(c (a+1):Int);omega
  rw[h];show(c (a+1):Int)<=_;omega
 have av:∀b,b<F->dT (aw F g) (b:Int)=gg T b n:=λb R=>(by obtain⟨W,_,h,_⟩:=B.rZ b R;rw[pa (by rw[bk];exact R),fD,h]);have ap:∀{b i:Nat},b<F->c b<=i->i<c (b+1)->fF (h2.aO (aw F g)) i (aw F g).length=(b:Int):=λ{b i} R ce h=>(by have N:=bk F g;exact vd (m:=(aw F g).length) (λa d=>⟨d,ad.1 a d⟩) U (by rw[v b U];exact ce) (by rw[v (b+1) U];exact h) _ U (a2 _));unfold gY;rw[C];refine⟨ad,λa d=>?_,λa d=>?_,λa0 f Q=>?_⟩
 ·rw[bk] at d;rw[fD];obtain⟨W,_,h,_⟩:=B.rZ a d;obtain⟨j,p,q⟩:=B.rows C D H A d;have N:=A.m a d;have an:(gg T a n).length=(c (a+1)-c a)+j.length:=(by rw[p];simp);have O:=NX C D H A B a;have z:((c (a+1):Int)-(c a:Int)).toNat=c (a+1)-c a:=U;rw[h];unfold iu;dsimp only;rw[z];refine⟨U,λf _ am o=>⟨λy=>?_,λw=>?_⟩⟩
  ·dsimp only at y o|-;rw[z] at y;simp only[p,List.map_append,List.getElem_map];rw[List.getElem_append_left (by simpa using y)];simp
  dsimp only at w o|-;rw[z] at w;have E:(gg T a n)[f]=((j[f-(c (a+1)-c a)]'(by omega):Nat):Int):=by simp only[p,List.map_append];rw[List.getElem_append_right (by simpa using w)];simp
  have J:=(q _).1 (bA (U:f-(c (a+1)-c a)<j.length));refine⟨by rw[E];omega,by rw[E];omega,?_⟩;exact(gj.1 O) (f-1) f U U U
 ·rw[bk] at d;rw[fD];obtain⟨W,cs,h,cv⟩:=B.rZ a d;obtain⟨j,p,q⟩:=B.rows C D H A d;have N:=A.m a d;have an:(gg T a n).length=(c (a+1)-c a)+j.length:=(by rw[p];simp);have O:=NX C D H A B a;have z:((c (a+1):Int)-(c a:Int)).toNat=c (a+1)-c a:=U;have E:∀f (o:f<(gg T a n).length),c (a+1)-c a<=f->∃i,i∈j/\(gg T a n)[f]=(i:Int):=λf o w=>by
   refine⟨j[f-(c (a+1)-c a)]'(by omega),bA _,?_⟩
   simp only[p,fN];rw[List.getElem_append_right (by simpa using w)];simp
  rw[h];unfold hB;dsimp only;rw[z];rcases cs with⟨ax,d0⟩|⟨I,b,X,Y,bd,bl,rfl,d1,Z,bs,bB⟩
  ·refine .inl ⟨?_,ax⟩;have:j=[]:=List.eq_nil_iff_forall_not_mem.2 λi c2=>by
    obtain⟨M,r,s⟩:=(q i).1 c2;have:=d0 i r s;omega
   rw[an,this];rfl
  have dl:=(q I).2 ⟨bd,X,Y⟩;have d5:0<j.length:=List.length_pos_of_mem dl;refine .inr ⟨U,?_,λf am o=>?_⟩
  ·obtain⟨l,V,P⟩:=E (c (a+1)-c a) U (a2 _);obtain⟨M,r,s⟩:=(q l).1 V;have d4:l<=I:=by
    obtain⟨L,c1,S⟩:=fC.1 ((Gl (x:=I) C D H A B (k:=a)).2 ⟨X,Y⟩);rcases bg L (c (a+1)-c a) with u|u
    ·simp only[p,fN] at S;rw[List.getElem_append_left (by simpa using u)] at S;simp at S;omega
    rcases bg (c (a+1)-c a) L with ab|ab
    ·have:=(gj.1 O) _ L U c1 ab;omega
    obtain rfl:L=c (a+1)-c a:=U;omega
   have ds:l=I:=by
    rcases bg l I with u|u
    ·have:=bl l u s;omega
    omega
   rw[P,ds,db,ap Z bs bB]
  obtain⟨l,V,P⟩:=E f o am;obtain⟨M,r,s⟩:=(q l).1 V;rw[P,av b Z];exact(Gl C D H A B).2 ⟨r,cv b rfl l M r s⟩
 intro y;have co:a0<n:=(by obtain⟨o,_⟩:=Q;omega);have J:f<n:=(by have:=Q.lt D;omega);obtain⟨b,K,a3,a4⟩:=A.own C D H co;rw[ap K a3 a4,av b K];refine(Gl C D H A B).2 ⟨J,B.sub b f K J ((A.t b f K J).2 ⟨a0,a3,a4,m4.2 ⟨U,.inr ⟨y,?_⟩⟩⟩)⟩;exact .one Q
end
end
def X8 {c b d:ad5} (f:gn a a c b d) (e:eG a a c b d≠0):rf (((a:Int),(a:Int),c,b,d,()),())=some ((0,0,[],[],[],()),eG a a c b d,()):=by unfold rf;refine aq f.uh ?_;dsimp only;rw[bo (by rw[b0,az e];rfl)]
def X5:rh ((0,0,[],[],[],()),())=some (([],()),1,()):=by unfold rh;refine aq (y:=((1:Int),())) rfl ?_;rfl
def zC:da []:=Cl []
def Ya (b:ad5):∃c,p0 (([],()),b,())=some (([],()),c,()):=by
 rw[Hg (λf e=>by cases e)];by_cases a:lg [] b=0
 ·rw[ai a];refine⟨0,?_⟩;have:b=[]:=by
   unfold lg at a;rw[ah (not_not_intro (nE.2 ⟨bE _,zC⟩))] at a;split at a
   ·cases a
   rename_i d;exact lX (Decidable.not_not.1 d)
  subst this;rfl
 rw[ah a];exact⟨_,rfl⟩
def lT.small {b:adU} {j:Nat->bW} (p:b.length=a) (q:da b) (r:a<=5) (k:mE b a a c h e) (o:lT b a c h e c d j):(aw c j).length<=5/\∀n∈aw c j,0<n.2.2.1.length/\n.2.2.1.length<=5:=by have x:=k.wP p q r;refine⟨by rw[bk];omega,λn u=>?_⟩;obtain⟨l,g,rfl⟩:=List.mem_iff_getElem.1 u;rw[bk] at g;rw[fD];obtain⟨y,_,s,_⟩:=o.rZ l g;obtain⟨z,t,_⟩:=o.rows p q r k g;have v:=k.m l g;have w:=NZ (T:=d) (f:=l) (i:=a);rw[s];dsimp only;refine⟨?_,U⟩;rw[t];simp;omega
def S4 {c b d:ad5} (g:a<=5) (t:gn a a c b d) {f I:ad5} (r:I.length<=9223372036854775807):ae (xO (((a:Int),(a:Int),c,b,d,()),f,I,())) (λP=>∃l:fv,P=(l,())/\l.length<=5/\(∀J∈l,0<J.2.2.1.length/\J.2.2.1.length<=5)/\(jX a a c b d f=0->gY (gb a (dq (bv c b d a)) f) l)):=by
 classical
 by_cases j:eG a a c b d=0
 ·have s:=(iU.1 j).1;have K:=(iU.1 j).2;have C:=p4 s a (a2 _);have D:=p3 s;have Q:=yJ g (o1 C) (o0 D) yI;have L:=oQ s t.hw;have M:=oQ s (Ch K);have H:=o1 C;have F:=o0 D;have O:=Hy (rows:=a) (jI:=a) (E:=dq (bv c b d a)) U U U (λx w=>L x (eY.1 w).1);have N:=EG H F (λx w=>M x (eY.1 w).1);have v:=No O N;rw[Fj H F] at v;by_cases k:dY f a
  ·refine(FJ (rA k) (tD a (dq (bv c b d a)) f) g r (G8 g t j) v (Np g k)).mono ?_;rintro _ ⟨y,B,A,z,p,h,i,rfl⟩;obtain⟨m,o⟩:=i.small (rA k) (tD a (dq (bv c b d a)) f) g h;exact⟨_,rfl,m,o,λ_=>i.SS (rA k) (tD a (dq (bv c b d a)) f) g h⟩
  have q:∃u,p0 ((ha a (hb (dq (bv c b d a))),()),f,())=some (([],()),u,()):=by
   rw[Hg (λl r=>by have:=FK a (hb (dq (bv c b d a))) l r;omega)];rw[ah (λe=>?_)]
   ·exact⟨_,rfl⟩
   unfold lg at e;split at e
   ·contradiction
   split at e
   ·cases e
   split at e
   ·rename_i p;rw[tB] at p;exact k p
   cases e
  obtain⟨u,q⟩:=q;refine(FJ (G:=[]) (n:=0) rfl zC (bE _) r (G8 g t j) v q).mono ?_;rintro _ ⟨y,B,A,z,p,h,i,rfl⟩;obtain⟨m,o⟩:=i.small rfl zC (bE _) h;refine⟨_,rfl,m,o,λe=>absurd (Hz e).2.2 k⟩
 obtain⟨u,q⟩:=Ya f;refine(FJ (G:=[]) (n:=0) rfl zC (bE _) r (X8 t j) X5 q).mono ?_;rintro _ ⟨y,B,A,z,p,h,i,rfl⟩;obtain⟨m,o⟩:=i.small rfl zC (bE _) h;exact⟨_,rfl,m,o,λe=>absurd (Hz e).1 j⟩
def Px {d c e:ad5} (h:a<=5) (g:gn a a d c e) {o:ad5} (C:o.length<=1000000) {b:fv} (H:b.length<=5) (r:∀k∈b,k.2.2.1.length<=5):∃q x t,z6 q/\oM (((a:Int),(a:Int),d,c,e,()),o,b,())=some (q,x,t,())/\ri (((a:Int),(a:Int),d,c,e,()),o,b,())=some (q,x,t,()):=by
 classical
 by_cases u:jX a a d c e o=0
 ·obtain⟨m,_,f⟩:=Hz u;by_cases i:k5 (gb a (dq (bv d c e a)) o) b=0
  ·have z:=yx (E:=dq (bv d c e a)) h f;have B:gG (gb a (dq (bv d c e a)) o)=0:=nE.2 ⟨by rw[rA f];omega,tD a (dq (bv d c e a)) o⟩;have A:gY (gb a (dq (bv d c e a)) o) b:=by
    unfold k5 at i;rw[ah (not_not_intro B)] at i;split at i
    ·assumption
    cases i
   have v:=H7 z (l:=b) U (λk s=>by have:=r k s;omega);rw[i] at v;refine⟨_,_,_,TT h (rA f) (by rw[f.1];omega),QU h g m f A,?_⟩;unfold ri;refine aq (y:=((0:Int),())) ?_ ?_
   ·unfold vH;refine aq (Dj g U) ?_;have D:(if eG a a d c e≠0 then eG a a d c e else if a≠a then 5 else if dY o a then 0 else 90)=0:=by
     rw[ah (not_not_intro m),ah (not_not_intro rfl),ai f]
    rw[D];dsimp only;rw[bi (by rfl)];refine aq (G7 h g m f) (aq v ?_);dsimp only;rw[bi (by rfl)];refine ae.eq_iff.1 ?_;refine ae.aU (P:=λF=>F=.inl ()) ?_ ?_
    ·refine ae.steps b.length (λj G=>G=((j:Int),())) rfl ?_ ?_
     ·rintro j _ w rfl;dsimp only;rw[a1,bo (aB (U:(j:Int)<(b.length:Int))),bt U];refine ae.bs (y:=b[j]) (bQ w) ?_;have:=r b[j] (List.getElem_mem w);rw[bi (az (show¬ay (b[j]).2.2.1>64 by rw[a1];omega))];exact ae.ag.2 rfl
     rintro _ rfl;dsimp only;rw[a1,bi (az (U:¬((b.length:Int)<(b.length:Int))))];exact ae.ag.2 rfl
    rintro _ rfl;exact ae.ag.2 rfl
   dsimp only;rw[bi (by rfl)];exact aq (X7 h g m f) rfl
  obtain⟨n,p⟩:=Pw h g m f (l:=b) U (λk s=>by have:=r k s;omega) i;exact⟨_,_,_,CR,n,p⟩
 obtain⟨n,p⟩:=Py g C u b;exact⟨_,_,_,CR,n,p⟩
def Pe (C:ad5) (t i D f:Int) (v:C.length<=9223372036854775807):E4 (C,t,i,D,f,())=some (true,()):=by
 unfold E4;refine ae.eq_iff.1 ?_;refine ae.aU (XI v t 0 true) ?_;rintro⟨W,G,_⟩ ⟨x,g,k,J⟩;dsimp only at k J|-;obtain⟨O,L,Q,rfl,ax,A,B⟩:=k.ex;have w:=uH.small g g ax A B;clear k ax A B;refine ae.aU (S4 g w v) ?_;rintro _ ⟨c,rfl,z,d,_⟩;dsimp only;refine ae.aU (P:=λp=>∃d:fv,p=(((x:Int),(x:Int),O,L,Q,()),d,())/\d.length<=5/\∀b∈d,b.2.2.1.length<=5) ?_ ?_
 ·rw[a1];by_cases u:0<c.length
  ·rw[bo (aB (U:(c.length:Int)>0))];refine ae.bs (ql i u U) ?_;have m:=wb i u;dsimp only;generalize nQ i c.length=r at*;refine ae.bs (dd m) (ae.bs (ql f (n:=5) aa aa) (ae.bs (ql D (n:=4) aa aa) ?_));dsimp only;have a:=List.getElem?_eq_getElem m;obtain⟨F,j⟩:=d _ (List.getElem_mem m);generalize c[r]=E at*;have h:∀b:bW,b.2.2.1.length<=5->(c.set r b).length<=5/\∀s∈c.set r b,s.2.2.1.length<=5:=λb e=>⟨by rw[List.length_set];exact z,λs K=>by
    rcases List.mem_or_eq_of_mem_set K with p|rfl
    ·exact(d s p).2
    exact e⟩
   rw[dB,dB,dB,br,br,br];refine ae.ite (λ_=>?_) (λ_=>ae.ite (λ_=>?_) (λ_=>ae.ite (λ_=>?_) (λ_=>?_)))
   ·rw[ix a,aG,ix a];exact ae.bs rfl (ae.ag.2 ⟨_,rfl,h _ j⟩)
   ·rw[ix a,aG,ix a];exact ae.bs rfl (ae.ag.2 ⟨_,rfl,h _ j⟩)
   ·rw[ix a,aG,ix a];exact ae.bs rfl (ae.ag.2 ⟨_,rfl,h _ j⟩)
   rw[ix a];refine ae.bs rfl ?_;rw[a1];refine ae.bs (ql f F U) ?_;have l:=wb f F;dsimp only;generalize nQ f E.2.2.1.length=q at*;have e:=List.getElem?_eq_getElem l;refine ae.bs (y:=q) (dd l) ?_;rw[ix a,ix e];refine ae.bs rfl ?_;refine ae.bs (y:=q) (dd l) ?_;rw[ix a,ix e];refine ae.bs rfl (ae.ag.2 ⟨_,rfl,h _ ?_⟩);show(E.2.2.1.set q _).length<=5;rw[List.length_set];exact j
  rw[bi (az (U:¬(c.length:Int)>0))];exact ae.ag.2 ⟨c,rfl,z,λb e=>(d b e).2⟩
 rintro _ ⟨V,rfl,M,N⟩;dsimp only;obtain⟨T,R,S,H,f2,I⟩:=Px g w (o:=G) U M N;refine ae.bs f2 (ae.bs I ?_);dsimp only;rw[bo ac,bo ac];refine ae.bs (Y5 H) ?_;dsimp only;rw[bo ac];exact ae.bs Qy (ae.ag.2 rfl)
end Go.h2
end
