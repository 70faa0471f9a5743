/-
  Parts of the proof: Fw21: the framework (Fw), pure forms (Dn), plain laws (Pl, Th), calls of functions (Ok).
-/
import Derived.Test.YtnndjinceoekdaaGreatDoorBc5880ed0

set_option linter.all false
set_option maxHeartbeats 1000000
open _root_ renaming Nat->X,List->bm,Bool->bA,rfl->bn,Array->bT,cond_true->bG,cond_false->bP
open Go renaming World->bC,Oper->bR,Operand->bM,execOp->bN,resolve->akM
open Option renaming some->Y,none->bo
open Bool renaming false->bp,true->bq
open Go.jy.c8 renaming refl->cp
open Go.jy.a5 renaming here->alF
open Go.Sem renaming run_bind->bW,run_pure->ct
open Go.Result renaming andThen_ok->b1
open Go.Oper renaming wp->ake
noncomputable section
namespace Go.jy
section
def nO (d:X) (st:aQ) (c:bm ak) (b:bm hL) (a:bm aG):bA:=
 jJ (gw c b)&&jJ ((kh c b++jo d (jl a) 0 a).map (·.1))&&(jo d (jl a) 0 a).all λe=>(aq st.h e.1).isNone
section
variable {E:fF} {C:e4} {st:aQ} {a:Act} {w w':bC} {I I' B':X->Prop} {rt:X->ey} {fp:X->aj5}
theorem O8 {rt:X->ey} {l:aj5} {b:bm (X×aG)}:∀{as:bm ak} {bs:bm hL} {gs:es},o2 b l as bs->gs.length=bs.length->∀id∈mP as bs,∃e∈g9 rt as bs gs,e.1=id/\aq b id=Y ⟨e.2.1.1,(match aq b id with|some h=>if i:h.1=e.2.1.1 then i▸h.2 else e.2.1.2|none=>e.2.1.2)⟩
 |[],bs,gs,_,_,id,b=>by cases bs<;>cases b
 |a::as,[],gs,f,_,id,b=>by cases a<;>exact f.elim
 |a::as,c::bs,[],_,k,id,b=>by cases k
 |a::as,c::bs,o::gs,f,k,id,b=>by
  have d:=O8 (rt:=rt) (as:=as) (bs:=bs) (gs:=gs) f.2 (by grind) id;have j:=f.1;cases a with
  |ref n g=>cases g with
   |nil=>
    cases c with
    |m h t=>
     simp only[mP,fC] at b;simp only[g9];rcases b with rfl|b
     ·refine⟨_,js ..,bn,?_⟩;rw[j.1];simp
     grind
    |_=>exact d b
   |cons=>cases c<;>exact d b
  |view n g q i=>cases g with
   |nil=>
    cases c with
    |w v s r p u=>
     simp only[mP,fC] at b;simp only[g9];rcases b with rfl|b
     ·refine⟨_,js ..,bn,?_⟩;rw[j.1];simp
     grind
    |_=>exact d b
   |cons=>cases c<;>exact d b
  |_=>cases c<;>exact d b
theorem Hk {e f g:Type} {h:e->f->g->Prop}:∀{as:bm e} {c:bm f} {d:bm g},mG h as c d->c.length=as.length/\d.length=as.length
 |[],c,d,b=>by cases c<;>cases d<;>first|exact⟨bn,bn⟩|exact b.elim
 |a::as,[],d,b=>b.elim
 |a::as,i::c,[],b=>b.elim
 |a::as,i::c,j::d,b=>by obtain⟨k,l⟩:=Hk b.2;grind
theorem ZZ {a:bm (X×Cl)} (c:((a.map λb=>b.2.2.2).flatten).Nodup):(∀b∈a,b.2.2.2.Nodup)/\∀d e g h,aq a d=Y g->aq a e=Y h->d≠e->∀j∈g.2.2,j∉h.2.2:=by
 induction a with
 |nil=>exact⟨ac,λd e g h c=>by cases c⟩
 |cons l a r=>
  obtain⟨z,l⟩:=l;simp only[gW,l0,jt] at c;obtain⟨s,m,t⟩:=c;obtain⟨i1,x⟩:=r m;refine⟨λb w=>?_,λd e g h o p v j u=>?_⟩
  ·grind
  rw[di] at o p;have y:∀i f,aq a i=Y f->∀k∈f.2.2,k∈(a.map λb=>b.2.2.2).flatten:=λi f q k n=>l1.2 ⟨_,eQ.2 ⟨(i,f),A5 q,bn⟩,n⟩;grind
theorem Fm {e:Type}:∀{c:bm (X×e)},(c.map (·.1)).Nodup->∀{b:X×e},b∈c->aq c b.1=Y b.2
 |[],_,b,a=>by cases a
 |(k,x)::c,d,b,a=>by
  simp only[gW,jS] at d;rw[di];rcases fC.1 a with rfl|a
  ·rw[aw bn]
  rw[au (λf=>d.1 (by grind))];exact Fm d.2 a
theorem RS {e:X} {g:bA}:∀{j:X} {f:bm aG} {a:X} {c:ak},(wk e g j f)[a]?=Y c->∃b,f[a]?=Y b/\c=(bif b.1.pure then .val b.1 b.2 else .ref (r8 e g (j+a)) [])
 |j,[],a,c,d=>by grind [wk]
 |j,b::k,a,c,d=>by
  simp only[wk] at d;cases a with
  |zero=>grind
  |succ a=>
   obtain⟨l,h,i⟩:=RS (by simpa using d);grind
theorem RT {b:X} {c:bA}:∀{j:X} {a:bm aG},(wk b c j a).length=a.length
 |j,[]=>rfl
 |j,e::d=>by simp[wk,RT]
theorem RY {d:X} {s:bA}:∀{j:X} {res:bm aG} {cs:en} {hs:es},cs.length=res.length->hs.length=res.length->∀(a:X) b c e,res[a]?=Y b->cs[a]?=Y c->hs[a]?=Y e->b.1.pure=bp->(r8 d s (j+a),(b,c,e))∈ln d s j res cs hs
 |j,[],cs,hs,_,_,a,b,c,e,ao,_,_,_=>by grind
 |j,b::f,[],hs,g,_,_,_,_,_,_,_,_,_=>by cases g
 |j,b::f,c::cs,[],_,h,_,_,_,_,_,_,_,_=>by cases h
 |j,b::f,c::cs,e::hs,g,h,a,m,i,k,ao,n,o,l=>by
  simp only[ln];cases a with
  |zero=>
   grind
  |succ a=>
   have:=RY (d:=d) (s:=s) (j:=j+1) (res:=f) (cs:=cs) (hs:=hs) (by grind) (by grind) a m i k (by grind) (by grind) (by grind) l;grind
end
section
variable {E:fF} {C:e4} {st:aQ} {A:bT bR} {Q:aQ->Prop}
theorem Tb {i:bm (X×aG)} {j:aj5}:∀{as:bm ak} {bs:bm hL},o2 i j as bs->∀id∈gw as bs,∃h,aq i id=Y h
 |[],bs,_,id,b=>by cases bs<;>cases b
 |a::as,[],e,id,b=>by cases a<;>exact e.elim
 |a::as,c::bs,e,id,b=>by
  have d:=Tb (as:=as) (bs:=bs) e.2 id;have f:=e.1;cases a with
  |ref k g=>cases g with
   |nil=>
    cases c with
    |m h s=>
     simp only[gw,fC] at b;rcases b with rfl|b
     ·exact⟨_,f.1⟩
     grind
    |o h=>
     simp only[gw,fC] at b;rcases b with rfl|b
     ·exact⟨_,f⟩
     grind
    |_=>exact d b
   |cons=>cases c<;>exact d b
  |view k g p l=>cases g with
   |nil=>
    cases c with
    |w u r q n t=>
     simp only[gw,fC] at b;rcases b with rfl|b
     ·exact⟨_,f.1⟩
     grind
    |_=>exact d b
   |cons=>cases c<;>exact d b
  |_=>cases c<;>exact d b
theorem JY {s:ev} {w:bC} {I:X->Prop} {rt:X->ey} {fp:X->aj5} (e:cK C st s w I rt fp):∀{a:aj5},(∀id∈a,∃b,aq st.h id=Y b)->a.Nodup->((a.map fp).flatten).Nodup
 |[],_,_=>by simp
 |id::a,d,f=>by rw[jS] at f;simp only[gW,l0,jt];obtain⟨b,g⟩:=d id ac;refine⟨(e.tree id b g).2.1,JY e (λq u=>d q (by grind)) f.2,λj m t n c=>?_⟩;subst c;obtain⟨v,k,l⟩:=l1.1 n;obtain⟨i,o,rfl⟩:=eQ.1 k;obtain⟨r,p⟩:=d i (by grind);exact e.dis id i b r g p (λc=>f.1 (c▸o)) j m l
def Uy (e:eE->X->Prop) (w:bC) (c:X) (b:bm aG) (f:X->ey) (g:Value):Prop:=
 ∀(d:bm (X×aG)) (rt:X->ey) (fp:X->aj5),(∀a∈jo c (jl b) 0 b,aq d a.1=Y a.2/\rt a.1=f a.1)->cP e w d rt fp (wj c b) g
def cK.glob {E:fF} {C:e4} {st:aQ} {f:ev} {w:bC} {I:X->Prop} {rt:X->ey} {fp:X->aj5} (b:cK C st f w I rt fp) (d:∀a,C.I0 a\/C.B a->a<C.w0.heap.size/\¬C.F0 a) (e:lv E C.I0 C.w0):lv E I w:=
 e.mono b.i0 λa c=>b.frame a (d a (.inl c)).1 (d a (.inl c)).2
theorem cK.call {C:e4} {st:aQ} {gl:ev} {w:bC} {I:X->Prop} {rt:X->ey} {fp:X->aj5} (G:cK C st gl w I rt fp) {m ce:X} {n:bm ak} {R:ey} (c1:iM (cP (be I C.B) w st.h rt fp) n R) {l:bm hL} {g:bm aG} (fn:sk E ce l g) (T:o2 st.h (gw n l) n l) (a0:nO m st n l g=bq) (f9:∀F:es,(∀e∈F.flatten,∃id c,aq st.h id=Y c/\e∈fp id)->L7 w R F (pK 0 l)) (em:lv E I w):Calls E.P ce R.toArray w (λM w'=>∃I' H O cX,M=.returned (qR cX)/\nJ C st w w' I I' rt fp (gw n l) (x6 (mP n l)) (kh n l++jo m (jl g) 0 g) H O/\Uy (be I' C.B) w' m g H (qR cX)):=by
 simp only[nO,bk,g0] at a0;obtain⟨⟨c2,dg⟩,i0⟩:=a0;have c2:=jJ.ok c2;have dg:=jJ.ok dg
 let u:=gw n l
 let B':X->Prop:=λe=>C.B e\/∃id c,aq st.h id=Y c/\eX id u=bp/\e∈fp id
 have ek:∀e,C.B e->B' e:=λe k=>.inl k;have el:∀id c,aq st.h id=Y c->eX id u=bp->∀e∈fp id,B' e:=λid c x o e k=>.inr ⟨id,c,x,o,k⟩;obtain⟨F,ft,ii⟩:=MD G (B':=B') (S:=u) ek el (args:=l) c1 T;have i3:∀id∈u,∃c,aq st.h id=Y c:=λid v=>Tb T id v;have U:∀e∈F.flatten,∃id∈u,∃c,aq st.h id=Y c/\e∈fp id:=(by grind);have fz:F.flatten.Nodup:=(by grind [JY]);have fr:=fn w I B' R F (λe k=>by
  rcases k with k|k|⟨id,c,x,_,k⟩
  ·exact G.ib e (.inl k)
  ·exact G.ib e (.inr k)
  ·exact((G.tree id c x).2.2 e k).2.2.1) ft fz (λe k=>by
  obtain⟨id,v,c,x,ap⟩:=U e k;obtain⟨ay,d4,bs,d5⟩:=(G.tree id c x).2.2 e ap;refine⟨ay,?_,bs⟩;rintro(z|⟨d2,ad,gc,o,fl⟩)
  ·grind
  ·have f6:id≠d2:=λM=>(by grind [hk]);exact G.dis id d2 c ad x gc f6 e ap fl) (f9 F λe k=>by
  grind) em
 refine fr.mono ?_;rintro M w' ⟨I',D,A,cX,rfl,p⟩;obtain⟨J,a3,a4,i8,d0⟩:=RV p.res;have fT:=(Hk p.args).2;have cv:o2 st.h u n l:=T
 let q:bm (X×Cl):=g9 rt n l D++ln m (jl g) 0 g J A
 have hs:q.map (λb=>(b.1,b.2.1))=kh n l++jo m (jl g) 0 g:=(by grind [Rg,F8]);have cs:(q.map (·.1)).Nodup:=(by grind);have io:((g9 rt n l D).map (λb=>b.2.2.2)).flatten=D.flatten:=Rf cv p.args;have is:((ln m (jl g) 0 g J A).map (λb=>b.2.2.2)).flatten.Sublist A.flatten:=RW;have co:((q.map λb=>b.2.2.2).flatten).Sublist (D.flatten++A.flatten):=(by grind);obtain⟨hv,hc⟩:=ZZ (p.nd.sublist co);have f7:∀b∈g9 rt n l D,aU (be I' C.B) w' b.2.1.1 b.2.2.1 b.2.1.2 b.2.2.2/\b.2.2.1=rt b.1/\b.1∈u/\∃c,aq st.h b.1=Y c/\b.2.1.1=c.1:=(by exact Rh G (S:=u) (args:=l) (gs:=D) c1 T p.args);have ex:∀b∈q,aU (be I' C.B) w' b.2.1.1 b.2.2.1 b.2.1.2 b.2.2.2/\(b.1∈u\/aq st.h b.1=bo):=by
  intro b y;rcases hn.1 y with y|y
  ·grind
  obtain⟨f,ao,N,am⟩:=RX a3 a4 b y;have f3:f<cX.length:=(by grind);obtain⟨_,Q⟩:=d0 f _ _ _ cX[f] ao N am ac;refine⟨Q.mono (λbl e o=>⟨?_,cp _ _⟩) (λe _=>cp _ _),.inr ?_⟩
  ·cases bl
   ·exact o
   exact o.elim .inl (λz=>z.elim)
  have o:(b.1,b.2.1)∈jo m (jl g) 0 g:=(by grind [F8]);grind [Option.isNone_iff_eq_none]
 have eq:∀b∈q,∀e∈b.2.2.2,e∈D.flatten++A.flatten:=λb y e k=>co.subset (l1.2 ⟨_,eQ.2 ⟨b,y,bn⟩,k⟩);have dl:∀f,aq (kh n l++jo m (jl g) 0 g) f=(aq q f).map (·.1):=λf=>by grind [Py]
 let H:X->ey:=λf=>match aq q f with|some b=>b.2.1|none=>[]
 let O:X->aj5:=λf=>match aq q f with|some b=>b.2.2|none=>[]
 have ge:nJ C st w w' I I' rt fp u (x6 (mP n l)) (kh n l++jo m (jl g) 0 g) H O:=
  ⟨p.size,p.os,p.tape,p.output,λe k hw=>p.heap e k (λfs=>by obtain⟨id,v,c,x,ap⟩:=U e fs;grind),p.evo,p.i,(λe k=>by
    rcases p.i2 e k with z|⟨K,L|L⟩
    ·grind
    ·omega
    exact .inr ⟨K,.inr (U e L)⟩),
   (λid c v=>by
    rw[dl] at v;cases an:aq q id with
    |none=>grind
    |some b=>
     rw[an] at v;obtain rfl:b.1=c:=gq v;have o:=A5 an;obtain⟨K,L⟩:=ex _ o;refine⟨L,by grind,by grind,λe k=>?_⟩;simp only[O,an] at k;obtain⟨ay,d4,bs,d5⟩:=p.MS e (eq _ o e k);exact⟨ay,bs,d5.imp (λz=>z) (U e)⟩),
   (λV d6 c lb f1 f2 ix e k=>by
    rw[dl] at f1 f2;cases hi:aq q V with
    |none=>grind
    |some jp=>
     cases hr:aq q d6 with
     |none=>grind
     |some kd=>
      grind),
   (λd7 av c x=>by
    obtain⟨id,v,rfl⟩:=eQ.1 av;obtain⟨b,y,M,_⟩:=O8 (rt:=rt) cv fT id v;subst M;have o:b∈q:=nG _ y;have i1:=Fm cs o;obtain⟨_,L,_,ad,ci,d9⟩:=f7 b y;rw[x] at ci;obtain rfl:=gq ci;exact⟨b.2.1,by grind,d9,by grind,⟨c.1,by cases c.1<;>rfl⟩,λb _ _ _ a0=>by grind [Ff]⟩),
   (λd7 av c x b _ _ _ _ _ ic=>by
    obtain⟨id,v,rfl⟩:=eQ.1 av;grind [vq])⟩
 refine⟨I',H,O,cX,bn,ge,λK gf d8 f0=>?_⟩;have d3:∀(f:X) (c:aG) (r:Value),g[f]?=Y c->cX[f]?=Y r->cP (be I' C.B) w' K gf d8 (bif c.1.pure then .val c.1 c.2 else .ref (r8 m (jl g) (0+f)) []) r:=by
  intro f c r ao N;have f3:f<g.length:=(hT.1 ao).1;obtain⟨am,Q⟩:=d0 f c J[f] A[f] r ao ac ac N;subst am;cases ds:c.1.pure with
  |true=>
   simp only[bG];have:=Q.pure ds;rw[this] at Q;refine .val (Q.mono (λbl e o=>⟨?_,cp _ _⟩) ac);cases bl
   ·exact o
   exact o.elim .inl (λz=>z.elim)
  |false=>
   simp only[bP];have f4:=RY (d:=m) (s:=jl g) (j:=0) a3 a4 f c J[f] A[f] ao ac ac ds;have o:(r8 m (jl g) (0+f),(c,J[f],A[f]))∈q:=k1 _ f4;have f5:(r8 m (jl g) (0+f),c)∈jo m (jl g) 0 g:=(by rw[<-F8 (d:=m) (s:=jl g) (j:=0) a3 a4];grind);obtain⟨ay,d4⟩:=f0 _ f5;refine .ref (t:=c) (loc:=bo) ay ?_;have gt:H (r8 m (jl g) (0+f))=J[f]:=(by simp only[H,Fm cs o]);grind [alF]
 cases d1:g with
 |nil=>
  have:cX=[]:=re (by grind);subst this;exact .fj (vs:=#[]) rfl (λV a r z=>by grind)
 |cons c bx=>
  cases bx with
  |nil=>
   obtain⟨r,rfl⟩:∃r,cX=[r]:=p4.1 (by grind);have:=d3 0 c r (by grind) rfl;rw[d1] at this;exact this
  |cons gi bx=>
   have f8:qR cX=.tuple cX.toArray:=by
    have:cX.length=(c::gi::bx).length:=by grind
    match cX,this with
    |v1::fe::kg,_=>rfl
   rw[f8];refine .fj (by grind [RT]) (λV go r K L=>?_);obtain⟨ad,ao,N⟩:=RS K;have:=d3 V ad r (by grind) (by grind);rw[d1] at this;rw[N];exact this
theorem RZ {a:X} {d:bA} {c:bm aG} {e:bm (X×aG)} (f:((e++jo a d 0 c).map (·.1)).Nodup):∀b∈jo a d 0 c,aq (e++jo a d 0 c) b.1=Y b.2:=
 λb g=>Fm f (k1 _ g)
theorem e6.call {Q:aQ->Prop} {j d:X} {l:bR} {f:bM} {c:bm ak} {b s:bT _} (K:l.op=.call {callee:=.value f,args:=b,argTypes:=s}) (S:aV st.g f=.eA d c) (G:l.dst=Y j) (H:C.ok j) (an:∀(r:ev) (w:bC),(callFunc d r).run E.P w=.ok (.enter d r) w) {i:bm hL} {n:bm aG} (D:sk E d i n) (N:pK 0 i=bo) (x:∀m,C.I0 m\/C.B m->m<C.w0.heap.size/\¬C.F0 m) (y:lv E C.I0 C.w0) (z:o2 st.h (gw (b.toList.map (aV st.g)++c) i) (b.toList.map (aV st.g)++c) i) (p:nO j st (b.toList.map (aV st.g)++c) i n=bq) (u:Q (VS j st (b.toList.map (aV st.g)++c) i n)):e6 E C l st Q:=by
 rintro a w ⟨I,rt,fp,k⟩ next T J
 obtain⟨e,R,v⟩:∃e:ev,a.eval f=.func (.func d) #[] e/\iM (cP (be I C.B) w st.h rt fp) c e.toList:=by
  have o:=k.aV f;rw[S] at o;generalize bl:a.eval f=ce at o;cases o with|eA a0 ap=>
  grind [zt]
 have A:iM (cP (be I C.B) w st.h rt fp) (b.toList.map (aV st.g)++c) (b.toList.map a.eval++e.toList):=Hi (Hj (λf=>k.aV f) _) v;have F:=k.call A D z p (λ_ _=>by rw[N];trivial) (k.glob x y);generalize am:b.toList.map (aV st.g)++c=U at*;have M:(bN a.eval l).run E.P w=.ok (.enter d (b.toList.map a.eval++e.toList).toArray) w:=(by have ao:b.map a.eval=(b.toList.map a.eval).toArray:=(by grind);have t:(b.toList.map a.eval++e.toList).toArray=(b.toList.map a.eval).toArray++e:=ac;rw[t];simp only[bN,K,akM,ao,bW,R,Deferred.ofValue,ct,b1,invoke,Array.empty_append,Array.append_empty];grind);unfold ake;rw[M];show Calls E.P d _ w _;refine F.mono ?_;rintro V w' ⟨I',bx,ad,cX,rfl,O,L⟩;show next (a.put l.dst (qR cX)) w'
 rw[G];have q:=p;simp only[nO,bk] at q;have a3:=jJ.ok q.1.2;refine J _ _ _ u bn ⟨I',_,_,(k.eB O).put H (av:=wj j n) (L _ _ _ (λbs a4=>?_))⟩;grind [kR,RZ,fk]
end
end
end Go.jy
end
