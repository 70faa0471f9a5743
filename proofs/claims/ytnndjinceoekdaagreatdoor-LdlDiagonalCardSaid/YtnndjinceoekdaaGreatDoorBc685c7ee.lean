/-
  Parts of the proof: Fw21: the framework (Fw), pure forms (Dn), plain laws (Pl, Th), calls of functions (Ok).
-/
import Derived.Test.YtnndjinceoekdaaGreatDoorB3c37af38

set_option linter.all false
set_option maxHeartbeats 1000000
open _root_ renaming Nat->X,List->bm,Bool->bA,rfl->bn,Array->bU,cond_true->bG,cond_false->bO
open Go renaming World->bD,Oper->bQ,Operand->bM,execOp->bL,resolve->ahU
open Option renaming some->Y,none->bo
open Bool renaming false->bq,true->bp
open Go.jm.c5 renaming refl->cp
open Go.jm.aX renaming here->aiL
open Go.Sem renaming run_bind->bY,run_pure->cy
open Go.Result renaming andThen_ok->b1
open Go.Oper renaming wp->ahp
noncomputable section
namespace Go.jm
section
def nv (d:X) (st:aM) (c:bm aj) (b:bm hI) (a:bm aD):bA:=
 jz (gv c b)&&jz ((j8 c b++i5 d (iW a) 0 a).map (·.1))&&(i5 d (iW a) 0 a).all λe=>(aq st.h e.1).isNone
section
variable {E:fy} {C:eZ} {st:aM} {a:Act} {w w':bD} {I I' B':X->Prop} {rt:X->ag5} {fp:X->ahb}
theorem Ns {rt:X->ag5} {l:ahb} {b:bm (X×aD)}:∀{as:bm aj} {bs:bm hI} {gs:ev},oG b l as bs->gs.length=bs.length->∀id∈mB as bs,∃e∈g4 rt as bs gs,e.1=id/\aq b id=Y ⟨e.2.1.1,(match aq b id with|some h=>if i:h.1=e.2.1.1 then i▸h.2 else e.2.1.2|none=>e.2.1.2)⟩
 |[],bs,gs,_,_,id,b=>by cases bs<;>cases b
 |a::as,[],gs,f,_,id,b=>by cases a<;>exact f.elim
 |a::as,c::bs,[],_,k,id,b=>by cases k
 |a::as,c::bs,o::gs,f,k,id,b=>by
  have d:=Ns (rt:=rt) (as:=as) (bs:=bs) (gs:=gs) f.2 (by grind) id;have j:=f.1;cases a with
  |ref n g=>cases g with
   |nil=>
    cases c with
    |m h t=>
     simp only[mB,fR] at b;simp only[g4];rcases b with rfl|b
     ·refine⟨_,ng ..,bn,?_⟩;rw[j.1];simp
     grind
    |_=>exact d b
   |cons=>cases c<;>exact d b
  |view n g q i=>cases g with
   |nil=>
    cases c with
    |w v s r p u=>
     simp only[mB,fR] at b;simp only[g4];rcases b with rfl|b
     ·refine⟨_,ng ..,bn,?_⟩;rw[j.1];simp
     grind
    |_=>exact d b
   |cons=>cases c<;>exact d b
  |_=>cases c<;>exact d b
theorem FN {e f g:Type} {h:e->f->g->Prop}:∀{as:bm e} {c:bm f} {d:bm g},mn h as c d->c.length=as.length/\d.length=as.length
 |[],c,d,b=>by cases c<;>cases d<;>first|exact⟨bn,bn⟩|exact b.elim
 |a::as,[],d,b=>b.elim
 |a::as,i::c,[],b=>b.elim
 |a::as,i::c,j::d,b=>by obtain⟨k,l⟩:=FN b.2;grind
theorem XE {a:bm (X×Bb)} (c:((a.map λb=>b.2.2.2).flatten).Nodup):(∀b∈a,b.2.2.2.Nodup)/\∀d e g h,aq a d=Y g->aq a e=Y h->d≠e->∀j∈g.2.2,j∉h.2.2:=by
 induction a with
 |nil=>exact⟨ac,λd e g h c=>by cases c⟩
 |cons l a r=>
  obtain⟨z,l⟩:=l;simp only[h7,lQ,jY] at c;obtain⟨s,m,t⟩:=c;obtain⟨i1,x⟩:=r m;refine⟨λb w=>?_,λd e g h o p v j u=>?_⟩
  ·grind
  rw[dg] at o p;have y:∀i f,aq a i=Y f->∀k∈f.2.2,k∈(a.map λb=>b.2.2.2).flatten:=λi f q k n=>lS.2 ⟨_,eP.2 ⟨(i,f),zZ q,bn⟩,n⟩;grind
theorem DX {e:Type}:∀{c:bm (X×e)},(c.map (·.1)).Nodup->∀{b:X×e},b∈c->aq c b.1=Y b.2
 |[],_,b,a=>by cases a
 |(k,x)::c,d,b,a=>by
  simp only[h7,jZ] at d;rw[dg];rcases fR.1 a with rfl|a
  ·rw[au bn]
  rw[aw (λf=>d.1 (by grind))];exact DX d.2 a
theorem PL {e:X} {g:bA}:∀{j:X} {f:bm aD} {a:X} {c:aj},(vh e g j f)[a]?=Y c->∃b,f[a]?=Y b/\c=(bif b.1.pure then .val b.1 b.2 else .ref (rA e g (j+a)) [])
 |j,[],a,c,d=>by grind [vh]
 |j,b::k,a,c,d=>by
  simp only[vh] at d;cases a with
  |zero=>grind
  |succ a=>
   obtain⟨l,h,i⟩:=PL (by simpa using d);grind
theorem PM {b:X} {c:bA}:∀{j:X} {a:bm aD},(vh b c j a).length=a.length
 |j,[]=>rfl
 |j,e::d=>by simp[vh,PM]
theorem PR {d:X} {s:bA}:∀{j:X} {res:bm aD} {cs:er} {hs:ev},cs.length=res.length->hs.length=res.length->∀(a:X) b c e,res[a]?=Y b->cs[a]?=Y c->hs[a]?=Y e->b.1.pure=bq->(rA d s (j+a),(b,c,e))∈k4 d s j res cs hs
 |j,[],cs,hs,_,_,a,b,c,e,ao,_,_,_=>by grind
 |j,b::f,[],hs,g,_,_,_,_,_,_,_,_,_=>by cases g
 |j,b::f,c::cs,[],_,h,_,_,_,_,_,_,_,_=>by cases h
 |j,b::f,c::cs,e::hs,g,h,a,m,i,k,ao,n,o,l=>by
  simp only[k4];cases a with
  |zero=>
   grind
  |succ a=>
   have:=PR (d:=d) (s:=s) (j:=j+1) (res:=f) (cs:=cs) (hs:=hs) (by grind) (by grind) a m i k (by grind) (by grind) (by grind) l;grind
end
section
variable {E:fy} {C:eZ} {st:aM} {A:bU bQ} {Q:aM->Prop}
theorem QV {i:bm (X×aD)} {j:ahb}:∀{as:bm aj} {bs:bm hI},oG i j as bs->∀id∈gv as bs,∃h,aq i id=Y h
 |[],bs,_,id,b=>by cases bs<;>cases b
 |a::as,[],e,id,b=>by cases a<;>exact e.elim
 |a::as,c::bs,e,id,b=>by
  have d:=QV (as:=as) (bs:=bs) e.2 id;have f:=e.1;cases a with
  |ref k g=>cases g with
   |nil=>
    cases c with
    |m h s=>
     simp only[gv,fR] at b;rcases b with rfl|b
     ·exact⟨_,f.1⟩
     grind
    |o h=>
     simp only[gv,fR] at b;rcases b with rfl|b
     ·exact⟨_,f⟩
     grind
    |_=>exact d b
   |cons=>cases c<;>exact d b
  |view k g p l=>cases g with
   |nil=>
    cases c with
    |w u r q n t=>
     simp only[gv,fR] at b;rcases b with rfl|b
     ·exact⟨_,f.1⟩
     grind
    |_=>exact d b
   |cons=>cases c<;>exact d b
  |_=>cases c<;>exact d b
theorem IG {s:ag3} {w:bD} {I:X->Prop} {rt:X->ag5} {fp:X->ahb} (e:cM C st s w I rt fp):∀{a:ahb},(∀id∈a,∃b,aq st.h id=Y b)->a.Nodup->((a.map fp).flatten).Nodup
 |[],_,_=>by simp
 |id::a,d,f=>by rw[jZ] at f;simp only[h7,lQ,jY];obtain⟨b,g⟩:=d id ac;refine⟨(e.tree id b g).2.1,IG e (λq u=>d q (by grind)) f.2,λj m t n c=>?_⟩;subst c;obtain⟨v,k,l⟩:=lS.1 n;obtain⟨i,o,rfl⟩:=eP.1 k;obtain⟨r,p⟩:=d i (by grind);exact e.dis id i b r g p (λc=>f.1 (c▸o)) j m l
def R2 (e:eD->X->Prop) (w:bD) (c:X) (b:bm aD) (f:X->ag5) (g:Value):Prop:=
 ∀(d:bm (X×aD)) (rt:X->ag5) (fp:X->ahb),(∀a∈i5 c (iW b) 0 b,aq d a.1=Y a.2/\rt a.1=f a.1)->cP e w d rt fp (vg c b) g
def cM.glob {E:fy} {C:eZ} {st:aM} {f:ag3} {w:bD} {I:X->Prop} {rt:X->ag5} {fp:X->ahb} (b:cM C st f w I rt fp) (d:∀a,C.I0 a\/C.B a->a<C.w0.heap.size/\¬C.F0 a) (e:lg E C.I0 C.w0):lg E I w:=
 e.mono b.i0 λa c=>b.frame a (d a (.inl c)).1 (d a (.inl c)).2
theorem cM.call {C:eZ} {st:aM} {hc:ag3} {w:bD} {I:X->Prop} {rt:X->ag5} {fp:X->ahb} (H:cM C st hc w I rt fp) {m ci:X} {n:bm aj} {T:ag5} (c2:iB (cP (bf I C.B) w st.h rt fp) n T) {l:bm hI} {g:bm aD} (ft:rO E ci l g) (U:oG st.h (gv n l) n l) (a3:nv m st n l g=bp) (gf:∀G:ev,(∀e∈G.flatten,∃id c,aq st.h id=Y c/\e∈fp id)->KE w T G (pg 0 l)) (ex:lg E I w):Calls E.P ci T.toArray w (λN w'=>∃I' J Q r,N=.returned (qi r)/\nk C st w w' I I' rt fp (gv n l) (xi (mB n l)) (j8 n l++i5 m (iW g) 0 g) J Q/\R2 (bf I' C.B) w' m g J (qi r)):=by
 simp only[nv,cC,g0] at a3;obtain⟨⟨dl,ds⟩,jp⟩:=a3;have dl:=jz.ok dl;have ds:=jz.ok ds
 let v:=gv n l
 let B':X->Prop:=λe=>C.B e\/∃id c,aq st.h id=Y c/\eR id v=bq/\e∈fp id
 have em:∀e,C.B e->B' e:=λe k=>.inl k;have eq:∀id c,aq st.h id=Y c->eR id v=bq->∀e∈fp id,B' e:=λid c y o e k=>.inr ⟨id,c,y,o,k⟩;obtain⟨G,f0,i0⟩:=Lf H (B':=B') (S:=v) em eq (args:=l) c2 U;have kg:∀id∈v,∃c,aq st.h id=Y c:=λid x=>QV U id x;have V:∀e∈G.flatten,∃id∈v,∃c,aq st.h id=Y c/\e∈fp id:=(by grind);have f1:G.flatten.Nodup:=(by grind [IG]);have fz:=ft w I B' T G (λe k=>by
  rcases k with k|k|⟨id,c,y,_,k⟩
  ·exact H.ib e (.inl k)
  ·exact H.ib e (.inr k)
  ·exact((H.tree id c y).2.2 e k).2.2.1) f0 f1 (λe k=>by
  obtain⟨id,x,c,y,av⟩:=V e k;obtain⟨ax,d6,bx,d7⟩:=(H.tree id c y).2.2 e av;refine⟨ax,?_,bx⟩;rintro(A|⟨d4,am,gi,o,fs⟩)
  ·grind
  ·have f9:id≠d4:=λN=>(by grind [hd]);exact H.dis id d4 c am y gi f9 e av fs) (gf G λe k=>by
  grind) ex
 refine fz.mono ?_;rintro N w' ⟨I',F,D,r,rfl,p⟩;obtain⟨K,a4,bl,lb,d2⟩:=PO p.res;have f2:=(FN p.args).2;have c1:oG st.h v n l:=U
 let q:bm (X×Bb):=g4 rt n l F++k4 m (iW g) 0 g K D
 have ic:q.map (λb=>(b.1,b.2.1))=j8 n l++i5 m (iW g) 0 g:=(by grind [Pk,EL]);have cv:(q.map (·.1)).Nodup:=(by grind);have i1:((g4 rt n l F).map (λb=>b.2.2.2)).flatten=F.flatten:=Pj c1 p.args;have i3:((k4 m (iW g) 0 g K D).map (λb=>b.2.2.2)).flatten.Sublist D.flatten:=PP;have cs:((q.map λb=>b.2.2.2).flatten).Sublist (F.flatten++D.flatten):=(by grind);obtain⟨ii,hs⟩:=XE (p.nd.sublist cs);have gc:∀b∈g4 rt n l F,aS (bf I' C.B) w' b.2.1.1 b.2.2.1 b.2.1.2 b.2.2.2/\b.2.2.1=rt b.1/\b.1∈v/\∃c,aq st.h b.1=Y c/\b.2.1.1=c.1:=(by exact Pl H (S:=v) (args:=l) (gs:=F) c2 U p.args);have fn:∀b∈q,aS (bf I' C.B) w' b.2.1.1 b.2.2.1 b.2.1.2 b.2.2.2/\(b.1∈v\/aq st.h b.1=bo):=by
  intro b z;rcases h8.1 z with z|z
  ·grind
  obtain⟨f,ao,O,an⟩:=PQ a4 bl b z;have f6:f<r.length:=(by grind);obtain⟨_,R⟩:=d2 f _ _ _ r[f] ao O an ac;refine⟨R.mono (λbs e o=>⟨?_,cp _ _⟩) (λe _=>cp _ _),.inr ?_⟩
  ·cases bs
   ·exact o
   exact o.elim .inl (λA=>A.elim)
  have o:(b.1,b.2.1)∈i5 m (iW g) 0 g:=(by grind [EL]);grind [Option.isNone_iff_eq_none]
 have fl:∀b∈q,∀e∈b.2.2.2,e∈F.flatten++D.flatten:=λb z e k=>cs.subset (lS.2 ⟨_,eP.2 ⟨b,z,bn⟩,k⟩);have d0:∀f,aq (j8 n l++i5 m (iW g) 0 g) f=(aq q f).map (·.1):=λf=>by grind [NN]
 let J:X->ag5:=λf=>match aq q f with|some b=>b.2.1|none=>[]
 let Q:X->ahb:=λf=>match aq q f with|some b=>b.2.2|none=>[]
 have gl:nk C st w w' I I' rt fp v (xi (mB n l)) (j8 n l++i5 m (iW g) 0 g) J Q:=
  ⟨p.size,p.os,p.tape,p.output,λe k io=>p.heap e k (λfT=>by obtain⟨id,x,c,y,av⟩:=V e fT;grind),p.evo,p.i,(λe k=>by
    rcases p.i2 e k with A|⟨L,M|M⟩
    ·grind
    ·omega
    exact .inr ⟨L,.inr (V e M)⟩),
   (λid c x=>by
    rw[d0] at x;cases ap:aq q id with
    |none=>grind
    |some b=>
     rw[ap] at x;obtain rfl:b.1=c:=gD x;have o:=zZ ap;obtain⟨L,M⟩:=fn _ o;refine⟨M,by grind,by grind,λe k=>?_⟩;simp only[Q,ap] at k;obtain⟨ax,d6,bx,d7⟩:=p.Lo e (fl _ o e k);exact⟨ax,bx,d7.imp (λA=>A) (V e)⟩),
   (λad d8 c lk f4 f5 i8 e k=>by
    rw[d0] at f4 f5;cases hv:aq q ad with
    |none=>grind
    |some lc=>
     cases hw:aq q d8 with
     |none=>grind
     |some le=>
      grind),
   (λd9 a0 c y=>by
    obtain⟨id,x,rfl⟩:=eP.1 a0;obtain⟨b,z,N,_⟩:=Ns (rt:=rt) c1 f2 id x;subst N;have o:b∈q:=rX _ z;have kd:=DX cv o;obtain⟨_,M,_,am,co,el⟩:=gc b z;rw[y] at co;obtain rfl:=gD co;exact⟨b.2.1,by grind,el,by grind,⟨c.1,by cases c.1<;>rfl⟩,λb _ _ _ a3=>by grind [DQ]⟩),
   (λd9 a0 c y b _ _ _ _ _ is=>by
    obtain⟨id,x,rfl⟩:=eP.1 a0;grind [uB])⟩
 refine⟨I',J,Q,r,bn,gl,λL go ek f3=>?_⟩;have d5:∀(f:X) (c:aD) (u:Value),g[f]?=Y c->r[f]?=Y u->cP (bf I' C.B) w' L go ek (bif c.1.pure then .val c.1 c.2 else .ref (rA m (iW g) (0+f)) []) u:=by
  intro f c u ao O;have f6:f<g.length:=(hJ.1 ao).1;obtain⟨an,R⟩:=d2 f c K[f] D[f] u ao ac ac O;subst an;cases d1:c.1.pure with
  |true=>
   simp only[bG];have:=R.pure d1;rw[this] at R;refine .val (R.mono (λbs e o=>⟨?_,cp _ _⟩) ac);cases bs
   ·exact o
   exact o.elim .inl (λA=>A.elim)
  |false=>
   simp only[bO];have f7:=PR (d:=m) (s:=iW g) (j:=0) a4 bl f c K[f] D[f] ao ac ac d1;have o:(rA m (iW g) (0+f),(c,K[f],D[f]))∈q:=lm _ f7;have f8:(rA m (iW g) (0+f),c)∈i5 m (iW g) 0 g:=(by rw[<-EL (d:=m) (s:=iW g) (j:=0) a4 bl];grind);obtain⟨ax,d6⟩:=f3 _ f8;refine .ref (t:=c) (loc:=bo) ax ?_;have hr:J (rA m (iW g) (0+f))=K[f]:=(by simp only[J,DX cv o]);grind [aiL]
 cases d3:g with
 |nil=>
  have:r=[]:=qx (by grind);subst this;exact .ff (vs:=#[]) rfl (λad a u A=>by grind)
 |cons c ce=>
  cases ce with
  |nil=>
   obtain⟨u,rfl⟩:∃u,r=[u]:=qC.1 (by grind);have:=d5 0 c u (by grind) rfl;rw[d3] at this;exact this
  |cons gt ce=>
   have ge:qi r=.tuple r.toArray:=by
    have:r.length=(c::gt::ce).length:=by grind
    match r,this with
    |v1::fv::lf,_=>rfl
   rw[ge];refine .ff (by grind [PM]) (λad hi u L M=>?_);obtain⟨am,ao,O⟩:=PL L;have:=d5 ad am u (by grind) (by grind);rw[d3] at this;rw[O];exact this
theorem PS {a:X} {d:bA} {c:bm aD} {e:bm (X×aD)} (f:((e++i5 a d 0 c).map (·.1)).Nodup):∀b∈i5 a d 0 c,aq (e++i5 a d 0 c) b.1=Y b.2:=
 λb g=>DX f (lm _ g)
theorem e0.call {Q:aM->Prop} {j d:X} {l:bQ} {f:bM} {c:bm aj} {b s:bU _} (K:l.op=.call {callee:=.value f,args:=b,argTypes:=s}) (S:aU st.g f=.eA d c) (G:l.dst=Y j) (H:C.ok j) (ap:∀(r:ag3) (w:bD),(callFunc d r).run E.P w=.ok (.enter d r) w) {i:bm hI} {n:bm aD} (D:rO E d i n) (N:pg 0 i=bo) (x:∀m,C.I0 m\/C.B m->m<C.w0.heap.size/\¬C.F0 m) (y:lg E C.I0 C.w0) (z:oG st.h (gv (b.toList.map (aU st.g)++c) i) (b.toList.map (aU st.g)++c) i) (p:nv j st (b.toList.map (aU st.g)++c) i n=bp) (u:Q (Ti j st (b.toList.map (aU st.g)++c) i n)):e0 E C l st Q:=by
 rintro a w ⟨I,rt,fp,k⟩ next U J
 obtain⟨e,R,v⟩:∃e:ag3,a.eval f=.func (.func d) #[] e/\iB (cP (bf I C.B) w st.h rt fp) c e.toList:=by
  have o:=k.aU f;rw[S] at o;generalize bs:a.eval f=ci at o;cases o with|eA a3 a0=>
  grind [yy]
 have A:iB (cP (bf I C.B) w st.h rt fp) (b.toList.map (aU st.g)++c) (b.toList.map a.eval++e.toList):=FL (FM (λf=>k.aU f) _) v;have F:=k.call A D z p (λ_ _=>by rw[N];trivial) (k.glob x y);generalize an:b.toList.map (aU st.g)++c=V at*;have M:(bL a.eval l).run E.P w=.ok (.enter d (b.toList.map a.eval++e.toList).toArray) w:=(by have ao:b.map a.eval=(b.toList.map a.eval).toArray:=(by grind);have t:(b.toList.map a.eval++e.toList).toArray=(b.toList.map a.eval).toArray++e:=ac;rw[t];simp only[bL,K,ahU,ao,bY,R,Deferred.ofValue,cy,b1,invoke,Array.empty_append,Array.append_empty];grind);unfold ahp;rw[M];show Calls E.P d _ w _;refine F.mono ?_;rintro ad w' ⟨I',ce,am,T,rfl,O,L⟩;show next (a.put l.dst (qi T)) w'
 rw[G];have q:=p;simp only[nv,cC] at q;have a4:=jz.ok q.1.2;refine J _ _ _ u bn ⟨I',_,_,(k.eC O).put H (av:=vg j n) (L _ _ _ (λbx bl=>?_))⟩;grind [kH,PS,fh]
end
end
end Go.jm
end
