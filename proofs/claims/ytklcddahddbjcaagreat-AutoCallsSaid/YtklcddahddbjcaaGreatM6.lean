/- Points that are held, plainly: they are points; what a T -/
import Derived.Test.YtklcddahddbjcaaGreatM5
import Derived.Test.YtklcddahddbjcaaGreatM3
import Derived.Test.YtklcddahddbjcaaGreatRows
import Derived.Test.YtklcddahddbjcaaGreatM4
import Derived.WalkKit
import Derived.ProofKit
import Derived.OpenShut
import Derived.ShutString
import Derived.ChangeOld
import Derived.Below
set_option maxRecDepth 100000
set_option linter.unusedVariables false
set_option linter.unusedSimpArgs false
set_option maxHeartbeats 16000000
namespace Go.Proofs
namespace YtklcddahddbjcaaGreat
open Go Go.Vc
theorem Z1{c:aN}(hc:kh c){ls:List bm}{b:aA}(h:Inv c ls b){o:Int}{x:fG}{u:bq}(ho:kj c ls o=some x)(hu:u∈x.2.2.1++x.2.2.2):(jB b u.1).1=u.2/\0<(jB b u.1).2:=by
 have Z5:=h.HL hc;obtain⟨w,hw⟩:∃w,Aa x u.1=some w:=by cases hh:Aa x u.1 with|some w=>simp|none=>have:=List.find?_eq_none.1 hh u hu;grind
 have hwm:=List.mem_of_find?_eq_some hw;have hwe:w.1=u.1:=by have:=List.find?_some hw;grind
 have hg:bG I b.2.2.2.1 o=some x.2.2.1:=by rw[h.book.g3,ho];rfl
 have hm:=gl kV hg;have ZS:kX b o u.1=some w:=by rw[h.book.kX,ho];exact hw
 have z7:gy b u.1 b.2.2.2.1=w.2:=yo (Z5.held u.1) (fun _ h=>h) (x:=(o,x.2.2.1)) hm ZS;unfold jB;refine⟨z7.trans (h.Am.held _ _ _ _ ho ho w hwm u hu hwe),?_⟩;have:(o,x.2.2.1)∈b.2.2.2.1.filter (YtklcddahddbjcaaGreat.holds b u.1):=List.mem_filter.2 ⟨hm,by grind[holds]⟩;grind
theorem Z2{c:aN}{ls:List bm}{b:aA}(h:Inv c ls b)(e:Int):((jB b e).1=0/\(jB b e).2=0)\/∃o x u,kj c ls o=some x/\u∈x.2.2.1++x.2.2.2/\u.1=e:=by cases hf:b.2.2.2.1.find? (holds b e)with|none=>grind[List.filter_eq_nil_iff,jB,gy]|some x=>right;have h1:=List.find?_some hf;unfold holds at h1;obtain⟨u,hu⟩:=Option.isSome_iff_exists.1 h1;rw[h.book.kX]at hu;obtain⟨y,hy,hu⟩:=Option.bind_eq_some_iff.1 hu;have:=List.find?_some hu;exact⟨x.1,y,u,hy,List.mem_of_find?_eq_some hu,by grind⟩
theorem PF{p:ab}{r:ah}(hr:Bf p r){b:aA}(hb:b.1=(p.1.length:Int)):nu b r=true:=by
 have Qz:=sY r;unfold nu;simp only[ag];refine⟨?_,gD.2 fun i hi=>?_,List.all_eq_true.2 fun e he=>?_,gD.2 fun i hi=>?_⟩;rw[cS (by have:=hr.len;omega)];rfl;have WZ:i<(cP r).length:=by omega
 have h1:=hr.steps _ (jI ((0:Int),(0:Int),(0:Int)) hi);have h1:0<=(iM r.2.2.2.1 i).1/\(iM r.2.2.2.1 i).1<(p.1.length:Int):=h1;unfold pZ Hl;rw[dh h1.1,dh (by omega),dB,dB,dY];refine gA.2 fun j hj=>beq_false_of_ne fun e=>?_;rw[JJ,JJ,rQ 0 WZ,rQ 0 (show j<(cP r).length by omega)]at e;have:=(List.getElem_inj hr.once).1 e;omega;have h1:=hr.nh e he;grind[rh,Hl];have WZ:i<(aT r).length:=by grind[aT]
 have hm:=jI ((0:Int),(0:Int)) WZ;have h1:=hr.rE.each _ hm;have h1:((eT r i).2=1\/(eT r i).2=2)/\0<=(eT r i).1/\(eT r i).1<(p.1.length:Int):=h1;unfold ma Hl;rw[dh h1.2.1,dh (by omega),dB,dB];have h2:((eT r i).2==1||(eT r i).2==2)=true:=by grind
 rw[h2,dB,dY];refine gA.2 fun j hj=>?_;have hmj:=jI ((0:Int),(0:Int)) (show j<(aT r).length by omega);unfold tX;cases h3:((eT r j).1==(eT r i).1)with|false=>rfl|true=>have:=hr.rE.one _ hmj _ hm (eq_of_beq h3);grind[eT]
def vS(o:List Bool):Prop:=∀k:Nat,o.getD k false=false
theorem HX{o:List Bool}(h:vS o)(e:Int):pP o e=false:=by unfold pP;rw[h,Bool.and_false,Bool.and_false]
theorem CU{p:ab}{inn:ff}(h:vS inn.1):vS (ew p inn).1:=fun k=>by unfold ew;show(n4 p inn.1 inn.1.length).getD k false=false;unfold n4;rw[cr,List.drop_of_length_le (aP _),List.append_nil,List.getElem?_map];by_cases hk:k<inn.1.length;rw[List.getElem?_range hk];show zG p inn.1 k=false;unfold zG;rw[h];rfl;grind
def vK(c:aN)(ls:List bm):Prop:=∀i:Nat,i<c.2.length->(ls.getD i gq).1=0
theorem Ts{c:aN}{ls:List bm}(h:vK c ls):kj c ls=fun _=>none:=by funext o;unfold kj yT;split;rename_i ho;rw[h o.toNat (by omega)];rfl;rfl
theorem KS{c:aN}(hc:kh c){ls:List bm}{b:aA}(h:Inv c ls b)(hi:vK c ls){inn:ff}(ho:vS inn.1){k:Int}(hk:0<=k/\k<(c.2.length:Int))(hb:(aB c k).2.2.2.2.2.2.2.2=false)(t:eF):VI c ls b t inn k/\mE t (aB c k) inn.1 b=0:=by
 have hr:=hc.rz _ (lP hk);have hE:=Ts hi;have Jk:=h.book;rw[hE]at Jk;have qg:∀e,iz b e=-1:=fun e=>Jk.anG fun o x hx=>by cases hx
 have hz:∀e,qp b e=[]:=fun e=>List.eq_nil_iff_forall_not_mem.2 fun z hz=>by obtain⟨x,hx,_⟩:=(Jk.R0 e z).1 hz;cases hx
 have ZS:∀e,(jB b e).1=0:=fun e=>by grind[Z2]
 have hte:∀e,kO c.1 inn.1 e=false:=fun e=>by grind[kO,HX]
 have ZN:mE t (aB c k) inn.1 b=0:=by unfold mE;(have:(eC (bV t.1) (aB c k)).any (pY t inn.1 b (xI (bV t.1) (aB c k).1))=false:=dE.2 fun w _=>by(have hq:yu (bV t.1) w.1 inn.1 b (xI (bV t.1) (aB c k).1)=true:=by grind[yu,gA,Dx,HX]);grind[pY]);grind
 refine⟨⟨hk,hb,gA.2 fun i DL=>?_,dE.2 fun s _=>?_,dE.2 fun e _=>?_,Ff.2 ⟨hk.1,?_,PF hr h.size,dE.2 fun s _=>?_,dE.2 fun e _=>?_,dE.2 fun u _=>?_⟩,dE.2 fun u _=>?_,ZN⟩,ZN⟩;unfold sG Al;rw[aj,hi i DL];simp;unfold rk;grind;grind;rw[Jk.has];rfl;grind[jt];grind;unfold kK;grind;unfold m7;grind
theorem VV{c:aN}{ls:List bm}{b:aA}{t:eF}{inn:ff}{k:Int}(hk:0<=k/\k<(c.2.length:Int))(hb:(aB c k).2.2.2.2.2.2.2.2=true):wY c ls b t inn k=11:=by unfold wY;(have:po c k=true:=by grind[po]);rw[this,cond_true];grind[xR]
def sN(c:aN)(inn:ff)(gone:List (Int×Bool))(l:bm)(i:Nat):bm:=if l.1=0 then l else(dI l (rT (aB c (i:Int)) inn (i:Int) gone)).1
theorem Gg{c:aN}{inn:ff}{gone:List (Int×Bool)}{s:wH}(hl:s.1.length=c.2.length):∀k,k<=c.2.length->(fv c inn gone s k).1.length=c.2.length/\∀i:Nat,(fv c inn gone s k).1.getD i gq=if i<k then sN c inn gone (s.1.getD i gq) i else s.1.getD i gq|0,_=>⟨hl,fun i=>by rfl⟩|k+1,hk=>by obtain⟨h1,h2⟩:=Gg (inn:=inn) (gone:=gone) hl k (by omega);have z8:=h2 k;rw[if_neg (by omega)]at z8;show(nD c inn gone (fv c inn gone s k) k).1.length=_/\∀i:Nat,(nD c inn gone (fv c inn gone s k) k).1.getD i gq=_;unfold nD;split;rename_i h0;refine⟨h1,fun i=>?_⟩;rw[h2 i];by_cases e:i=k;subst e;rw[if_neg (by omega),if_pos (by omega)];unfold sN;grind;grind;rename_i h0;refine⟨by grind,fun i=>?_⟩;show(List.set _ _ _).getD i gq=_;rw[vw (by omega)];by_cases e:i=k;subst e;rw[if_pos rfl,if_pos (by omega)];unfold sN;grind;grind
theorem Wl{α:Type}(n:Nat)(d:α):rowOf n d []=List.replicate n d:=by grind[rowOf]
theorem CV(p:ab)(pos:List Int):vS (lF p [] pos).1:=fun k=>by show(rowOf p.1.length false []).getD k false=false;grind[Wl]
theorem Gb(p:ab)(b9:List Bool)(pos:List Int):nz p (lF p b9 pos)=true:=by grind[nz,lF,Ss]
theorem I7(c:aN):vK c (List.replicate c.2.length gq):=fun i hi=>by rw[cr,List.getElem?_replicate,if_pos hi];rfl
theorem zr{c:aN}{inn:ff}{gone:List (Int×Bool)}{s:wH}(hi:vK c s.1):∀k,k<=c.2.length->fv c inn gone s k=s|0,_=>rfl|k+1,hk=>by have ih:=zr (inn:=inn) (gone:=gone) hi k (by omega);show nD c inn gone (fv c inn gone s k) k=s;rw[ih];unfold nD;rw[if_pos (hi k (by omega))]
theorem Wd{W:fa}{inn:ff}(hs:nz W.1.1 inn=true)(a:Int)(ax:List Int):(fP W inn [a] ax).2.1.2.2=(gP W.1 (ew W.1.1 inn) ((fv W.1 (ew W.1.1 inn) (eL ax ax.length) (W.2.1,W.2.2.1) W.2.1.length).1,(fv W.1 (ew W.1.1 inn) (eL ax ax.length) (W.2.1,W.2.2.1) W.2.1.length).2,W.2.2.2.1,[]) a).2.2.2/\(fP W inn [a] ax).1.2.1=(gP W.1 (ew W.1.1 inn) ((fv W.1 (ew W.1.1 inn) (eL ax ax.length) (W.2.1,W.2.2.1) W.2.1.length).1,(fv W.1 (ew W.1.1 inn) (eL ax ax.length) (W.2.1,W.2.2.1) W.2.1.length).2,W.2.2.2.1,[]) a).1:=by unfold fP;rw[if_pos hs];exact⟨rfl,rfl⟩
theorem Sd{W:fa}(h:kD W){inn:ff}(hs:nz W.1.1 inn=true)(hv:vS inn.1){a:Int}(ha:0<=a/\a<(W.1.2.length:Int))(ax:List Int)(hi:vK W.1 (fv W.1 (ew W.1.1 inn) (eL ax ax.length) (W.2.1,W.2.2.1) W.2.1.length).1):((aB W.1 a).2.2.2.2.2.2.2.2=true->(fP W inn [a] ax).2.1.2.2=[11])/\((aB W.1 a).2.2.2.2.2.2.2.2=false->(fP W inn [a] ax).2.1.2.2=[0]/\(fP W inn [a] ax).1.2.1=(fv W.1 (ew W.1.1 inn) (eL ax ax.length) (W.2.1,W.2.2.1) W.2.1.length).1.set a.toNat (lH ((aB W.1 a).2.2.2.1.length:Int))):=by obtain⟨e1,e2⟩:=Wd hs a ax;have hI:=Inv.roads (inn:=ew W.1.1 inn) (gone:=eL ax ax.length) (s:=(W.2.1,W.2.2.1)) h.inv W.2.1.length (by rw[h.inv.len];simp);rw[e1,e2];unfold gP;constructor;intro hb;have:=VV (c:=W.1) (ls:=(fv W.1 (ew W.1.1 inn) (eL ax ax.length) (W.2.1,W.2.2.1) W.2.1.length).1) (b:=(fv W.1 (ew W.1.1 inn) (eL ax ax.length) (W.2.1,W.2.2.1) W.2.1.length).2) (t:=W.2.2.2.1) (inn:=ew W.1.1 inn) ha hb;rw[this,if_neg (by decide)];rfl;intro hb;have hw:=KS h.BT hI hi (inn:=ew W.1.1 inn) (CU hv) ha hb W.2.2.2.1;rw[if_pos (xd.2 hw.1)];refine⟨?_,rfl⟩;show[]++[mE W.2.2.2.1 (aB W.1 a) (ew W.1.1 inn).1 _]=[0];grind
structure aqJ (W:fa) (i:Nat):Prop where
 inv:kD W
 Lt:i<W.1.2.length
 idle:∀j:Nat,j<W.1.2.length->j≠i->(W.2.1.getD j gq).1=0
 up:(W.2.1.getD i gq).1=1\/(W.2.1.getD i gq).1=2
 off:(W.2.1.getD i gq).2.2.1=false
theorem Pb(r:ah)(inn:ff)(i:Int)(gone:List (Int×Bool)):rT r inn i gone=(r.2.2.2.1.map (EV inn.1),r.2.2.1==2,(aT r).all (liesAt inn.2.1),r.2.2.2.1.all (F3 inn.1)&&r.2.2.2.2.2.2.1.all (KV inn.1),inn.2.2.1.getD r.1.toNat false,inn.2.2.2.getD r.1.toNat false,qj gone i):=by grind[rT]
theorem Ph(p:ab)(pos:List Int):vS (ew p (lF p [] pos)).1/\(ew p (lF p [] pos)).2=(rowOf p.1.length 0 pos,List.replicate p.2.2.1.length false,List.replicate p.2.2.1.length false):=⟨CU (CV p pos),(KX _ _).2⟩
def adw(p:ab)(a:Int):fa:=(fP (gX (ba p)) (lF p [] []) [a] []).1
def Ds(l:List re)(a:Int)(k:Nat):List Int:=bif bY (l.getD k xb).2.2.2.2.2 a then[a]else[]
def Uh(p:ab)(a c:Int)(l:List re):Nat->fa|0=>(fP (gX (ba p)) (lF p [] []) [a,c] []).1|k+1=>(fP (Uh p a c l k) (nr p (l.getD k xb)) [] (l.getD k xb).2.2.2.2.2).1
def OV(p:ab)(a:Int)(l:List re):Nat->fa|0=>adw p a|k+1=>(fP (OV p a l k) (nr p (l.getD k xb)) [] (Ds l a k)).1
theorem Lx(l:List Int)(i:Int):∀k,k<=l.length->qj (eL l k) i=bY (l.take k) i|0,_=>by rw[List.take_zero];unfold bY;rfl|k+1,hk=>by have ih:=Lx l i k (by omega);show qj (dJ I (eL l k) (l.getD k 0) true) i=_;rw[gx 0 (show k<l.length by omega)];unfold qj at ih⊢;rw[xo kV];cases h:Ty.lr I i (l.getD k 0)with|true=>have e:=(Ty.qd kV i (l.getD k 0)).1 h;rw[cond_true,e];grind[bY]|false=>(have e:i≠l.getD k 0:=fun e=>by grind[Ty.qd,kV]);rw[cond_false,ih];unfold bY;grind
theorem Ly(l:List Int)(i:Int):qj (eL l l.length) i=bY l i:=by simp[Lx]
theorem TS(l:List re)(a:Int)(k:Nat):qj (eL (Ds l a k) (Ds l a k).length) a=qj (eL (l.getD k xb).2.2.2.2.2 (l.getD k xb).2.2.2.2.2.length) a:=by rw[Ly,Ly];unfold Ds;cases h:bY (l.getD k xb).2.2.2.2.2 a with|true=>simp[bY]|false=>simp[bY]
theorem HZ{W:fa}(h:kD W){inn:ff}(ax:List Int)(i:Nat)(hi:i<W.1.2.length):(fP W inn [] ax).1.2.1.getD i gq=bif nz W.1.1 inn then sN W.1 (ew W.1.1 inn) (eL ax ax.length) (W.2.1.getD i gq) i else W.2.1.getD i gq:=by have hl:=h.inv.len;unfold fP;cases hs:nz W.1.1 inn with|false=>rfl|true=>rw[if_pos rfl,cond_true];show(fv W.1 (ew W.1.1 inn) (eL ax ax.length) (W.2.1,W.2.2.1) W.2.1.length).1.getD i gq=_;rw[(Gg (c:=W.1) (inn:=ew W.1.1 inn) (gone:=eL ax ax.length) (s:=(W.2.1,W.2.2.1)) hl W.2.1.length (by omega)).2 i,if_pos (by omega)]
theorem Th{c:aN}{inn:ff}{g g':List (Int×Bool)}{l:bm}{i:Nat}(h:qj g (i:Int)=qj g' (i:Int)):sN c inn g l i=sN c inn g' l i:=by grind[sN,Pb]
theorem Xy{p:ab}(hR:(dC p).2=true){i:Nat}(hi:i<(ba p).2.length)(hb:(aB (ba p) (i:Int)).2.2.2.2.2.2.2.2=false)(c:Int):(fP (gX (ba p)) (lF p [] []) [(i:Int),c] []).1.2.1.getD i gq=lH ((aB (ba p) (i:Int)).2.2.2.1.length:Int):=by
 have hI:kD (gX (ba p)):=FJ hR;have hl:=hI.inv.len;have hz:vK (ba p) (gX (ba p)).2.1:=I7 _;have hr:fv (ba p) (ew p (lF p [] [])) [] ((gX (ba p)).2.1,(gX (ba p)).2.2.1) (gX (ba p)).2.1.length=((gX (ba p)).2.1,(gX (ba p)).2.2.1):=zr hz _ (by rw[hl];exact aP _);have hs:nz (gX (ba p)).1.1 (lF p [] [])=true:=Gb p [] [];have hw:=KS (As (uG hR)) hI.inv hz (inn:=ew p (lF p [] [])) (Ph p []).1 (k:=(i:Int)) ⟨by omega,by omega⟩ hb (gX (ba p)).2.2.2.1;have e:(fP (gX (ba p)) (lF p [] []) [(i:Int),c] []).1.2.1=(gP (ba p) (ew p (lF p [] [])) (gP (ba p) (ew p (lF p [] [])) ((fv (ba p) (ew p (lF p [] [])) [] ((gX (ba p)).2.1,(gX (ba p)).2.2.1) (gX (ba p)).2.1.length).1,(fv (ba p) (ew p (lF p [] [])) [] ((gX (ba p)).2.1,(gX (ba p)).2.2.1) (gX (ba p)).2.1.length).2,(gX (ba p)).2.2.2.1,[]) (i:Int)) c).1:=by unfold fP;rw[if_pos hs];rfl
 rw[e,hr];have e1:(gP (ba p) (ew p (lF p [] [])) ((gX (ba p)).2.1,(gX (ba p)).2.2.1,(gX (ba p)).2.2.2.1,[]) (i:Int)).1=(gX (ba p)).2.1.set i (lH ((aB (ba p) (i:Int)).2.2.2.1.length:Int)):=by unfold gP;rw[if_pos (xd.2 hw.1)];rfl
 have DI:((gX (ba p)).2.1.set i (lH ((aB (ba p) (i:Int)).2.2.2.1.length:Int))).getD i gq=lH ((aB (ba p) (i:Int)).2.2.2.1.length:Int):=by rw[vw (by rw[hl];exact hi),if_pos rfl]
 generalize gP (ba p) (ew p (lF p [] [])) ((gX (ba p)).2.1,(gX (ba p)).2.2.1,(gX (ba p)).2.2.2.1,[]) (i:Int)=s at e1⊢;unfold gP;split;rename_i h0;have pU:=(xd.1 h0).Lt;grind;grind
structure adM (p:ab) (V W:fa) (i:Nat):Prop where
 inv:kD V
 inw:kD W
 cv:V.1=ba p
 cw:W.1=ba p
 yM:V.2.1.getD i gq=W.2.1.getD i gq
theorem beside{p:ab}(hR:(dC p).2=true){i:Nat}(hi:i<(ba p).2.length)(hb:(aB (ba p) (i:Int)).2.2.2.2.2.2.2.2=false)(c:Int)(l:List re):∀k,adM p (Uh p (i:Int) c l k) (OV p (i:Int) l k) i|0=>by have hI:kD (gX (ba p)):=FJ hR;refine⟨xH hI _ _ _,xH hI _ _ _,tx _ _ _ _,tx _ _ _ _,(Xy hR hi hb c).trans ?_⟩;have hz:vK (ba p) (gX (ba p)).2.1:=I7 _;have hr:fv (ba p) (ew p (lF p [] [])) [] ((gX (ba p)).2.1,(gX (ba p)).2.2.1) (gX (ba p)).2.1.length=((gX (ba p)).2.1,(gX (ba p)).2.2.1):=zr hz _ (by rw[hI.inv.len];exact aP _);have ht:=(Sd hI (inn:=lF p [] []) (Gb p [] []) (CV p []) (a:=(i:Int)) ⟨by omega,Int.ofNat_lt.2 hi⟩ [] (by rw[show fv (gX (ba p)).1 (ew (gX (ba p)).1.1 (lF p [] [])) (eL [] ([]:List Int).length) _ _=_ from hr];exact hz)).2 hb;show _=(fP (gX (ba p)) (lF p [] []) [(i:Int)] []).1.2.1.getD i gq;rw[ht.2,show fv (gX (ba p)).1 (ew (gX (ba p)).1.1 (lF p [] [])) (eL [] ([]:List Int).length) _ _=_ from hr,aj,vw (by rw[hI.inv.len];exact hi),if_pos rfl];rfl|k+1=>by have ih:=beside hR hi hb c l k;refine⟨xH ih.inv _ _ _,xH ih.inw _ _ _,(tx _ _ _ _).trans ih.cv,(tx _ _ _ _).trans ih.cw,?_⟩;show(fP (Uh p (i:Int) c l k) (nr p (l.getD k xb)) [] (l.getD k xb).2.2.2.2.2).1.2.1.getD i gq=(fP (OV p (i:Int) l k) (nr p (l.getD k xb)) [] (Ds l (i:Int) k)).1.2.1.getD i gq;rw[HZ ih.inv _ i (by rw[ih.cv];exact hi),HZ ih.inw _ i (by rw[ih.cw];exact hi),ih.cv,ih.cw,ih.yM,Th (TS l (i:Int) k)]
theorem PJ{a:Ty}{β:Type}{k:a.den}{v:β}{x:a.den×β}:∀{m:List (a.den×β)},x∈dJ a m k v->x=(k,v)\/x∈m|[],h=>.inl (aK.1 h)|y::m,h=>by unfold dJ at h;cases hk:a.lr k y.1 with|true=>grind|false=>rw[hk]at h;rcases bn.1 h with h|h;exact .inr (h▸bP);rcases PJ h with h|h;exact .inl h;exact .inr (bh _ h)
theorem Q4{a:Ty}{β:Type}{k:a.den}{x:a.den×β}:∀{m:List (a.den×β)},x∈ji a m k->x∈m|[],h=>h|y::m,h=>by unfold ji at h;cases hk:a.lr k y.1 with|true=>rw[hk]at h;exact bh _ h|false=>rw[hk]at h;rcases bn.1 h with h|h;exact h▸bP;exact bh _ (Q4 h)
theorem F4{l:List cx}{x:cx×Bool}:∀k,k<=l.length->x∈nw [] l k->x.1∈l|0,_,h=>absurd h cb|k+1,hk,h=>by have h:x∈dJ kg (ji kg (nw [] l k) ((l.getD k zT).1,3-(l.getD k zT).2)) (l.getD k zT) true:=h;rcases PJ h with h|h;rw[h];exact jI zT (by omega);exact F4 k (by omega) (Q4 h)
theorem rO{l:List cx}{t:cx}(h:o4 (nw [] l l.length) t=true):t∈l:=by unfold o4 at h;cases hg:bG kg (nw [] l l.length) t with|none=>grind|some v=>exact F4 (x:=(t,v)) l.length (aP _) (gl (a:=kg) rfl hg)
structure anz (a b:ah):Prop where
 any:a.1=b.1\/(∃e,e∈cP a/\e∈cP b)\/(∃e,e∈cP a/\e∈b.2.2.2.2.2.2.1)\/(∃e,e∈a.2.2.2.2.2.2.1/\e∈cP b)\/∃x∈aT a,∃y∈aT b,x.1=y.1/\x.2≠y.2
def iL(p:ab)(a b:ah):Prop:=∀t∈Ag p a,∀u∈Ag p b,t.1=u.1->t.2=u.2
structure X6 (c:aN) (i:Nat) (ls:List bm) (b:aA) (t:eF):Prop where
 inv:Inv c ls b
 dL:kj c ls=ki (fun _=>none) (i:Int) (some (uc (aB c (i:Int))))
 yM:∀j:Nat,(ls.getD j gq).1=if j=i then 1 else 0
 tok:t=(some (mV c.1),nw [] (eC (mV c.1) (aB c (i:Int))) (eC (mV c.1) (aB c (i:Int))).length)
theorem refused{p:ab}(hr:pg p){i k:Nat}(hk:k<(ba p).2.length){ls:List bm}{b:aA}{t:eF}(h:X6 (ba p) i ls b t){inn:ff}(hv:vS inn.1)(hb:(aB (ba p) (k:Int)).2.2.2.2.2.2.2.2=false)(hi:i<(ba p).2.length)(hc:anz (aB (ba p) (i:Int)) (aB (ba p) (k:Int))):¬VI (ba p) ls b t inn (k:Int):=fun hw=>by have ZU:=As hr;(have QA:kj (ba p) ls (i:Int)=some (uc (aB (ba p) (i:Int))):=by rw[h.dL,B7]);have hm:=Ff.1 hw.may;have qg:∀e,e∈cP (aB (ba p) (i:Int))->iz b e=(i:Int):=fun e he=>h.inv.book.owner h.inv.Am QA (RP he);rcases hc.any with hc|⟨e,h1,h2⟩|⟨e,h1,h2⟩|⟨e,h1,h2⟩|⟨x,h1,y,h2,h3,h4⟩;have:=OT (k:=i) hw.same hi;unfold sG at this;rw[show((ba p).2.getD i zR).1=(aB (ba p) (i:Int)).1 from rfl,hc]at this;unfold Al at this;rw[aj,h.yM i,if_pos rfl]at this;simp at this;have:=h.inv.len;omega;unfold cP at h2;obtain⟨s,hs,rfl⟩:=List.mem_map.1 h2;have:=dE.1 hm.steps s hs;grind[jt];have:=dE.1 hm.nh e h2;grind;unfold cP at h2;obtain⟨s,hs,rfl⟩:=List.mem_map.1 h2;have:=dE.1 hm.steps s hs;unfold jt at this;have hz:=(h.inv.book.R0 s.1 (i:Int)).2 ⟨_,QA,RP h1⟩;grind;have hh:=Z1 ZU h.inv QA (u:=x) (by unfold aT at h1;exact h1);have hx:=((ZU.rz _ (lP (c:=ba p) (o:=(i:Int)) ⟨by omega,by omega⟩)).rE.each x h1).1;have:=dE.1 hm.held y h2;grind[kK]
def atR(b:ed)(o:Int):Int:=fQ (fun h=>h.1==o) b.2
def adm(l:List oP)(k:Nat):List oP:=l.take k++l.drop (k+1)
@[irreducible]def Vm(b:ed)(o:Int):ed:=bif decide (atR b o<0)then b else(b.1,adm b.2 (atR b o).toNat)
def akB(e:Int)(x:Int):Bool:=!(x==e)
def TO(b:ed)(o:Int):oP:=b.2.getD (atR b o).toNat zH
def Zm(h:oP)(e:Int):oP:=(h.1,h.2.1.filter (akB e),h.2.2.1,h.2.2.2.1.filter (wU e),h.2.2.2.2)
def agr(h:oP):Bool:=h.2.1.length+h.2.2.1.length+h.2.2.2.2.length==0
def Vi(b:ed)(o e:Int):ed:=(b.1,b.2.set (atR b o).toNat (Zm (TO b o) e))
def agt(b:ed)(o e:Int):Bool:=decide (atR b o<0)||!bY (TO b o).2.1 e
@[irreducible]def adj(b:ed)(o e:Int):ed:=bif agt b o e then b else bif agr (Zm (TO b o) e)then Vm (Vi b o e) o else Vi b o e
def agw(pos:List Int)(n:bq):Bool:=Om pos n.1==n.2
@[irreducible]def aal(r:ah)(pos:List Int):Bool:=(aT r).all (agw pos)
def setAt(c:aN)(ls:List bm)(s:Int)(i:Nat):Bool:=(c.2.getD i zR).1==s&&rU ls (i:Int)==2
def Xc(c:aN)(ls:List bm)(s:Int):Option Nat:=dZ (setAt c ls s) c.2.length
@[irreducible]def TZ(c:aN)(ls:List bm)(s:Int):Int:=match Xc c ls s with|some i=>(i:Int)|none=>-1
def adq(c:aN)(ls:List bm)(k:Int):Bool:=(aB c k).2.2.1==2||((aB c k).2.2.1==1&&decide (0<=TZ c ls (aB c k).2.1))
def anl(c:aN)(ls:List bm)(s:Nat):Int:=bif decide (TZ c ls (s:Int)<0)then 0 else bif adq c ls (TZ c ls (s:Int))then 2 else 1
def adz(c:aN)(ls:List bm)(k:Nat):List Int:=(List.range k).map (anl c ls)
@[irreducible]def JD(c:aN)(ls:List bm):List Int:=adz c ls c.1.2.2.1.length
@[irreducible]def adh(p:ab)(r:ah)(inn:ff)(i:Int)(ax:List Int):lh:=(r.2.2.2.1.map fun s=>tV p inn.1 s.1,r.2.2.1==2,aal r inn.2.1,!DW p r inn.1,pP inn.2.2.1 r.1,pP inn.2.2.2 r.1,bY ax i)
def aaf(r:ah)(i:Int)(b:ed)(pl:Int):ed:=adj b i (iM r.2.2.2.1 pl.toNat).1
def Ju(r:ah)(i:Int)(out:List Int)(b:ed):Nat->ed|0=>b|k+1=>aaf r i (Ju r i out b k) (out.getD k 0)
def Sl(r:ah)(i:Int)(g:bm×List Int)(b:ed):ed:=bif g.1.1==0 then Vm (Ju r i g.2 b g.2.length) i else Ju r i g.2 b g.2.length
@[irreducible]def gR(W:jR)(i:Int)(inn:ff)(ax:List Int):bm×List Int:=dI (W.2.1.getD i.toNat gq) (adh W.1.1 (aB W.1 i) inn i ax)
@[irreducible]def ahs(W:jR)(i:Int)(inn:ff)(ax:List Int):jR:=(W.1,W.2.1.set i.toNat (gR W i inn ax).1,Sl (aB W.1 i) i (gR W i inn ax) W.2.2.1,W.2.2.2)
def Yz(z:List Int):List Int:=M5 z z.length
def ahn(o:Int)(x:fG):oP:=(o,x.1,Yz x.2.1,x.2.2.1,x.2.2.2)
structure RS (dL:Int->Option fG) (b:ed):Prop where
 aqS:(b.2.map fun h=>h.1).Pairwise (· < ·)
 each:∀h∈b.2,∃x,dL h.1=some x/\h=ahn h.1 x
 has:∀o x,dL o=some x->∃h∈b.2,h.1=o
structure abv (W:jR):Prop where
 BT:kh W.1
 len:W.2.1.length=W.1.2.length
 yM:∀i:Nat,i<W.1.2.length->Hz (aB W.1 i).2.2.2.1.length (W.2.1.getD i gq)
 size:W.2.2.1.1=(W.1.1.1.length:Int)
 book:RS (kj W.1 W.2.1) W.2.2.1
 al2:W.2.2.2.1.length=W.1.1.2.2.2.1.length
def AP(W:jR)(inn:ff)(ax:List Int):Nat->jR|0=>W|k+1=>bif((AP W inn ax k).2.1.getD k gq).1==0 then AP W inn ax k else ahs (AP W inn ax k) (k:Int) inn ax
abbrev Kh:=jR×List Int
def Yb(W:jR)(inn:ff)(x:Int):Int:=Ol W.1 W.2.1 W.2.2.1 W.2.2.2.1 inn x
def agx(W:jR)(x:Int):jR:=(W.1,W.2.1.set x.toNat (lH ((aB W.1 x).2.2.2.1.length:Int)),adi W.2.2.1 x (aB W.1 x),Xi W.1.1 W.2.2.2.1 (aB W.1 x),W.2.2.2.2)
def Ue(inn:ff)(s:Kh)(x:Int):Kh:=(bif Yb s.1 inn x==0 then agx s.1 x else s.1,s.2++[Yb s.1 inn x])
def LL(inn:ff)(l:List Int)(s:Kh):Nat->Kh|0=>s|k+1=>Ue inn (LL inn l s k) (l.getD k 0)
def Yl(p:ab)(b:ed)(e:Nat):Int:=bif(p.1.getD e zE).2.1==2 then(Oq b (e:Int)).1 else 0
def We(p:ab)(b:ed)(k:Nat):List Int:=(List.range k).map (Yl p b)
def H0(W:jR)(inn:ff)(calls ax:List Int):Kh:=LL inn calls (AP W inn ax W.2.1.length,[]) calls.length
def R9(W:jR)(l:List Int):jR:=(W.1,W.2.1,W.2.2.1,W.2.2.2.1,l)
@[irreducible]def Vk(W:jR)(inn:ff)(calls ax:List Int):jR×xN×Int:=if nz W.1.1 inn=true then(R9 (H0 W inn calls ax).1 (JD W.1 (H0 W inn calls ax).1.2.1),(JD W.1 (H0 W inn calls ax).1.2.1,We W.1.1 (H0 W inn calls ax).1.2.2.1 W.1.1.1.length,(H0 W inn calls ax).2),0)else(W,([],[],[]),1)
structure arC (dL:Int->Option fG) (b:aA) (rb:ed):Prop where
 p:dx dL b
 r:RS dL rb
 Am:B4 dL
 full:Full dL
section
variable {p:ab} {inn:ff}
structure Mid (p:ab) (ls:List bm) (b:aA) (t:eF) (V:jR):Prop where
 inv:Inv (ba p) ls b
 inr:abv V
 ahA:V.1=ba p
 tS:V.2.1=ls
 tok:t.1=some (mV p)
 keys:(t.2.map Prod.fst).Nodup
 al2:∀l:Nat,l<p.2.2.2.1.length->V.2.2.2.1.getD l 0=yR t.2 (l:Int)
end
section
variable {p:ab} {inn:ff} {ls:List bm} {b:aA} {t:eF} {V:jR}
structure Alike (p:ab) (W:fa) (V:jR):Prop where
 inv:kD W
 ahA:W.1=ba p
 mid:Mid p W.2.1 W.2.2.1 W.2.2.2.1 V
 shown:V.2.2.2.2=W.2.2.2.2
end
def aaT(m:List (cx×Bool)):Prop:=∀x∈m,x.2=true
structure anL (p:ab) (W:fa) (V:jR):Prop where
 rz:pg p
 same:Alike p W V
 Pc:aaT W.2.2.2.1.2
def aaN(V:jR)(n:Nat):List (Nat×dn):=[(n,.cells (flat jF V.1++[.row LifeT (n+1),.ptr (n+2) 0,.row I (n+3),.row I (n+4)])),(n+2,.cells [.aE I V.2.2.1.1,.row VO (n+5)]),(n+1,.row false 73 LifeT V.2.1),(n+3,.row false 3 I V.2.2.2.1),(n+4,.row false 3 I V.2.2.2.2),(n+5,.row false 220 VO V.2.2.1.2)]
def nM(ls:List bm)(i:Int):Bool:=!(rU ls i==0)
def OQ(p:ab)(s:Int):Int:=(p.2.2.1.getD s.toNat zS).2.1.1
def oO(c:aN)(ls:List bm)(s:Int)(i:Nat):Bool:=(c.2.getD i zR).1==s&&nM ls (i:Int)
def wW(c:aN)(ls:List bm)(s:Int)(i:Nat):Bool:=(c.2.getD i zR).2.2.1==1&&((c.2.getD i zR).2.1==s&&nM ls (i:Int))
def BC(c:aN)(ls:List bm)(b9:List Bool)(s:Int)(k:Nat):Bool:=tV c.1 b9 (OQ c.1 s)||cu (wW c ls s) k
@[irreducible]def mg(c:aN)(ls:List bm)(b9:List Bool)(s:Int):Bool:=!cu (oO c ls s) c.2.length&&BC c ls b9 s c.2.length
def kN(c:aN)(s:Int)(i:Nat):Bool:=(c.2.getD i zR).1==s&&!(c.2.getD i zR).2.2.2.2.2.2.2.2
def tn(c:aN)(s:Int):List Int:=(dZ (kN c s) c.2.length).toList.map fun(i:Nat)=>(i:Int)
def r5(c:aN)(ls:List bm)(b9:List Bool)(s:Nat):List Int:=bif(c.1.2.2.1.getD s zS).2.2&&mg c ls b9 (s:Int)then tn c (s:Int)else[]
def gb(c:aN)(ls:List bm)(b9:List Bool):Nat->List Int|0=>[]|k+1=>gb c ls b9 k++r5 c ls b9 k
@[irreducible]def j6(c:aN)(ls:List bm)(b9:List Bool):List Int:=gb c ls b9 c.1.2.2.1.length
def Mz:br where args:=[.list LifeT,I];out:=.data [.bool];pre:=fun(x:List bm×Int×Unit)=>0<=x.2.1;fn:=fun(x:List bm×Int×Unit)=>(nM x.1 x.2.1,())
def XK:br where args:=[jF,.list LifeT,.list .bool,I];out:=.data [.bool];pre:=fun(x:aN×List bm×List Bool×Int×Unit)=>0<=x.2.2.2.1/\x.2.2.2.1<(x.1.1.2.2.1.length:Int);fn:=fun(x:aN×List bm×List Bool×Int×Unit)=>(mg x.1 x.2.1 x.2.2.1 x.2.2.2.1,())
def c17:br where args:=[jF,.list LifeT,.list .bool];out:=.row 3 I;pre:=fun(x:aN×List bm×List Bool×Unit)=>x.1.1.2.2.1.length<=1000;fn:=fun(x:aN×List bm×List Bool×Unit)=>(j6 x.1 x.2.1 x.2.2.1,())
def BZ:br where args:=[jF,.list LifeT,.list .bool];out:=.fresh [.list I];pre:=fun(x:aN×List bm×List Bool×Unit)=>x.1.1.2.2.1.length<=1000;fn:=fun(x:aN×List bm×List Bool×Unit)=>(j6 x.1 x.2.1 x.2.2.1,())
def c18:br where args:=[jF,.list LifeT,.list .bool];out:=.row 3 I;pre:=fun(x:aN×List bm×List Bool×Unit)=>x.1.1.2.2.1.length<=1000;fn:=fun(x:aN×List bm×List Bool×Unit)=>(j6 x.1 x.2.1 x.2.2.1,())
def Vz:br where args:=[jF,.list LifeT,.list .bool];out:=.fresh [.list I];pre:=fun(x:aN×List bm×List Bool×Unit)=>x.1.1.2.2.1.length<=1000;fn:=fun(x:aN×List bm×List Bool×Unit)=>(j6 x.1 x.2.1 x.2.2.1,())
def a61(x:aN×List bm×List Bool×Int×Unit):eY:=bp [(4,fun S=>{σ:=Nat,ok:=fun k=>k<=x.1.2.length/\cu (oO x.1 x.2.1 x.2.2.2.1) k=false,mu:=fun k=>x.1.2.length-k,sl:=fun k=>[(56,.one (.aE I (k:Int))),(10,.one (.aE .bool (BC x.1 x.2.1 x.2.2.1 x.2.2.2.1 k)))],bl:=fun _=>[],keep:=[1,2,3,4,9,54,55],cX:=[4]})]
def a17(x:aN×List bm×List Bool×Unit):eY:=bp [(3,fun S=>{σ:=Nat,ok:=fun k=>k<=x.1.1.2.2.1.length,mu:=fun k=>x.1.1.2.2.1.length-k,sl:=fun k=>[(16,.one (.aE I (k:Int))),(7,.one (.row I 1000))],bl:=fun k=>[(1000,.row false 3 I (gb x.1 x.2.1 x.2.2.1 k))],keep:=[1,2,3,14,15],cX:=[3]}),(7,fun S=>{σ:=Nat,ok:=fun k=>k<=x.1.2.length/\cu (kN x.1 (eI S 8)) k=false,mu:=fun k=>x.1.2.length-k,sl:=fun k=>[(35,.one (.aE I (k:Int)))],bl:=fun k=>[],keep:=[1,2,3,7,8,14,15,16,33,34],cX:=[3,1000]})]
def lu(c:aN)(s:Int)(k:Nat):Int:=oD (dZ (kN c s) k)
def a18(x:aN×List bm×List Bool×Unit):eY:=bp [(3,fun S=>{σ:=Nat,ok:=fun k=>k<=x.1.1.2.2.1.length,mu:=fun k=>x.1.1.2.2.1.length-k,sl:=fun k=>[(8,.one (.aE I (k:Int))),(7,.one (.row I 1000))],bl:=fun k=>[(1000,.row false 3 I (gb x.1 x.2.1 x.2.2.1 k))],keep:=[1,2,3],cX:=[3]}),(8,fun S=>{σ:=Nat,ok:=fun k=>k<=x.1.2.length,mu:=fun k=>x.1.2.length-k,sl:=fun k=>[(9,.one (.aE I (lu x.1 (eI S 8) k))),(10,.one (.aE .bool (cu (oO x.1 x.2.1 (eI S 8)) k))),(11,.one (.aE .bool (cu (wW x.1 x.2.1 (eI S 8)) k))),(12,.one (.aE I (k:Int)))],bl:=fun k=>[],keep:=[1,2,3,7,8],cX:=[3,1000]})] [109]
structure vL (W:fa):Prop where
 inv:kD W
 own:da W.1.1=(W.1,0)
 short:c9 W.1.1
def pw(W:fa)(inn:ff)(calls:List Int):List Int:=calls++j6 W.1 W.2.1 inn.1
def Iy(W:jR)(inn:ff)(calls:List Int):List Int:=calls++j6 W.1 W.2.1 inn.1
def yA(o:xN×Int)(n:Nat):xN×Int:=bif o.2==0 then((o.1.1,o.1.2.1,o.1.2.2.take n),0)else(([],[],[]),o.2)
@[irreducible]def pb(W:fa)(inn:ff)(calls ax:List Int):fa×xN×Int:=((fP W inn (pw W inn calls) ax).1,yA (fP W inn (pw W inn calls) ax).2 calls.length)
@[irreducible]def adk(W:jR)(inn:ff)(calls ax:List Int):jR×xN×Int:=((Vk W inn (Iy W inn calls) ax).1,yA (Vk W inn (Iy W inn calls) ax).2 calls.length)
def Ej(W:fa)(calls ax:List Int):Prop:=vL W/\calls.length<=900/\ax.length<=1000
def XO:eO where args:=[EB,.aE KQ,.aE (.list I),.aE (.list I)];outs:=[.aE (.pair (.list I) (.pair (.list I) (.list I))),.aE I];pre:=fun(x:fa×ff×List Int×List Int×Unit)=>Ej x.1 x.2.2.1 x.2.2.2.1;fn:=fun(x:fa×ff×List Int×List Int×Unit)=>((pb x.1 x.2.1 x.2.2.1 x.2.2.2.1).2.1,(pb x.1 x.2.1 x.2.2.1 x.2.2.2.1).2.2,());iq:=fun(x:fa×ff×List Int×List Int×Unit)=>((pb x.1 x.2.1 x.2.2.1 x.2.2.2.1).1,x.2)
theorem QS(c:aN)(s:Int):(tn c s).length<=1:=by unfold tn;cases dZ (kN c s) c.2.length<;>simp
theorem TW{c:aN}{s:Int}{k:Nat}(hk:k<c.2.length)(h0:cu (kN c s) k=false)(h1:kN c s k=true):tn c s=[(k:Int)]:=by unfold tn;rw[qV hk h0 h1];rfl
theorem TV{c:aN}{s:Int}(h0:cu (kN c s) c.2.length=false):tn c s=[]:=by unfold tn;cases h:dZ (kN c s) c.2.length with|none=>rfl|some k=>unfold dZ at h;rw[List.find?_range_eq_some]at h;have:=gA.1 h0 k (List.mem_range.1 h.2.1);rw[h.1]at this;cases this
theorem Q9(c:aN)(ls:List bm)(b9:List Bool)(s:Nat):(r5 c ls b9 s).length<=1:=by unfold r5;cases(c.1.2.2.1.getD s zS).2.2&&mg c ls b9 (s:Int);exact c8 _;exact QS _ _
theorem wx(c:aN)(ls:List bm)(b9:List Bool):∀k,(gb c ls b9 k).length<=k|0=>aP _|k+1=>by have h1:=wx c ls b9 k;have h2:=Q9 c ls b9 k;show(gb c ls b9 k++r5 c ls b9 k).length<=_;rw[c4];omega
theorem Ou(c:aN)(ls:List bm)(b9:List Bool):(j6 c ls b9).length<=c.1.2.2.1.length:=by unfold j6;exact wx _ _ _ _
structure aio (c:aN) (ls:List bm) (b9:List Bool) (s:Nat) (x:Int):Prop where
 here:0<=x/\x<(c.2.length:Int)
 from_:(aB c x).1=(s:Int)
 bare:(aB c x).2.2.2.2.2.2.2.2=false
 auto:(c.1.2.2.1.getD s zS).2.2=true
 first:∀j:Nat,(j:Int)<x->kN c (s:Int) j=false
 anN:mg c ls b9 (s:Int)=true
section
variable {p:ab} {W:fa} {V:jR}
theorem vL.calls(h:vL W)(inn:ff){calls:List Int}(hc:calls.length<=900):(pw W inn calls).length<=1000:=by have:=h.inv.BT.sigs;have:=Ou W.1 W.2.1 inn.1;unfold pw;rw[c4];omega
theorem YO(h:vL W)(inn:ff)(calls ax:List Int):vL (pb W inn calls ax).1:=by unfold pb;have hc:=tx W inn (pw W inn calls) ax;refine⟨xH h.inv _ _ _,?_,?_⟩;show da (fP _ _ _ _).1.1.1=((fP _ _ _ _).1.1,0);rw[hc];exact h.own;show c9 (fP _ _ _ _).1.1.1;rw[hc];exact h.short
theorem Eo(c:aN)(inn:ff)(l:List Int)(s:w7):∀k,(rZ c inn l s k).2.2.2.length=s.2.2.2.length+k|0=>rfl|k+1=>by have ih:=Eo c inn l s k;show(gP c inn (rZ c inn l s k) (l.getD k 0)).2.2.2.length=_;unfold gP;split<;>simp[ih]<;>omega
theorem Kn(W:fa)(inn:ff)(calls ax:List Int):((fP W inn calls ax).2.2=0/\(fP W inn calls ax).2.1.2.2.length=calls.length)\/((fP W inn calls ax).2.2=1/\(fP W inn calls ax).2.1=([],[],[])):=by unfold fP;split;refine .inl ⟨rfl,?_⟩;exact(Eo _ _ _ _ _).trans (by simp);exact .inr ⟨rfl,rfl⟩
end
def adD(p:ab)(W:fa)(a:re):fa:=(pb W (nr p a) a.2.2.2.2.1 a.2.2.2.2.2).1
def adP(p:ab)(l:List re):Nat->fa|0=>gX (ba p)|k+1=>adD p (adP p l k) (l.getD k xb)
def adC(p:ab)(V:jR)(a:re):jR:=(adk V (nr p a) a.2.2.2.2.1 a.2.2.2.2.2).1
def adO(p:ab)(l:List re):Nat->jR|0=>Sx (ba p)|k+1=>adC p (adO p l k) (l.getD k xb)
theorem RF{p:ab}(hR:(dC p).2=true):vL (gX (ba p)) where inv:=FJ hR;own:=JR hR;short:=(uG hR).short
def ID(l:List gK):Nat->List gK|0=>l|k+1=>(ID l k).set k (((ID l k).getD k zS).1,((ID l k).getD k zS).2.1,false)
def ad0(p:ab):ab:=(p.1,p.2.1,ID p.2.2.1 p.2.2.1.length,p.2.2.2)
abbrev ah3:eK:=.pair (.aE (.list AE)) (.pair (.aE (.list AD)) (.pair (.row 44 r8) (.aE (.pair (.list w6) (.pair I (.pair I (.pair I (.pair I .bool))))))))
def Re:eO where args:=[];outs:=[ah3];pre:=fun(x:Unit)=>True;fn:=fun(x:Unit)=>(C0,())
def XP:br where args:=[];out:=.data [.bool];pre:=fun(x:Unit)=>True;fn:=fun(x:Unit)=>(true,())
def c3:br:=UW [PlanT,.list LifeT,.list .bool]
def a4(x:ab×List re×Unit):eY:=bp [(6,fun S=>{σ:=Nat,ok:=fun k=>k<=x.1.2.2.1.length,mu:=fun k=>x.1.2.2.1.length-k,sl:=fun k=>[(6,.one (.aE I (k:Int)))],bl:=fun k=>[(5,Ef S 5 [(2,.row r8 1000)]),(1000,.row false 44 r8 (ID x.1.2.2.1 k))],keep:=[1,2,5],cX:=[2]}),(16,fun S=>{σ:=Nat,ok:=fun k=>k<=x.2.1.length,mu:=fun k=>x.2.1.length-k,sl:=fun k=>[(11,.one (.aE I (k:Int))),(7,.one (.ptr 2000 0)),(9,.one (.ptr 3000 0))],bl:=fun k=>OP (Yx (ad0 x.1) x.2.1 k) 2000++OP (Yx (ad0 x.1) x.2.1 k) 3000,keep:=[1,5],cX:=[5,1000]})]
def acu(c:aN)(out:List Int):Nat->Int|0=>-1|k+1=>(aB c (out.getD k 0)).1
def SE(x:ab×List bm×List Bool×Unit):List Int:=j6 (ba x.1) x.2.1 x.2.2.1
def a5(x:ab×List bm×List Bool×Unit):eY:=bp [(9,fun S=>{σ:=Nat,ok:=fun k=>k<=(SE x).length,mu:=fun k=>(SE x).length-k,sl:=fun k=>[(11,.one (.aE I (k:Int))),(10,.one (.aE I (acu (ba x.1) (SE x) k)))],bl:=fun k=>[],keep:=[1,3,7,9],cX:=[3]}),(17,fun S=>{σ:=Nat,ok:=fun k=>k<=(dC x.1).1.length,mu:=fun k=>(dC x.1).1.length-k,sl:=fun k=>[(13,.one (.aE I (k:Int)))],bl:=fun k=>[],keep:=[1,3,7,9,11,12],cX:=[3]})]
def runK(x:ab×Int×Unit):Int:=x.2.1.tmod ((dC x.1).1.length:Int)
def a6(x:ab×Int×Unit):eY:=bp [(17,fun S=>{σ:=Nat,ok:=fun k=>k<=(dC x.1).1.length,mu:=fun k=>(dC x.1).1.length-k,sl:=fun k=>[(13,.one (.aE I (k:Int))),(12,.one (.aE I (lu (ba x.1) (aB (ba x.1) (runK x)).2.1 k)))],bl:=fun k=>[],keep:=[5,7,11],cX:=[]})]
def aaP(p:ab)(l:List re)(k:Nat):List (Nat×dn):=OP (adP p l k) 2000++aaN (adO p l k) 3000
def a7(x:ab×List re×Unit):eY:=bp [(9,fun S=>{σ:=Nat,ok:=fun k=>k<=x.2.1.length,mu:=fun k=>x.2.1.length-k,sl:=fun k=>[(7,.one (.aE I (k:Int))),(5,.one (.ptr 2000 0)),(6,.one (.ptr 3000 0))],bl:=fun k=>aaP x.1 x.2.1 k,keep:=[1,2],cX:=[2]})]
theorem ajP(ls:List (Int×Int×Bool×List Bool))(i:Int):aq (ao aJ []) Tryz.f114 Mz az (ls,i,())=( U (decide (i<(ls.length:Int))) fun(y2:Bool)=>(y2=true->aY i ls.length)/\(bif y2 then(ls.getD i.toNat ((0:Int),(0:Int),false,[])).1!=(0:Int)else false)=nM ls i/\True):=by kernel_rfl
theorem anf(ls:List bm)(i:Int)(h0:0<=i):aq (ao aJ []) Tryz.f114 Mz az (ls,i,()):=by rw[ajP];refine U.mk fun y2 e2=>⟨fun h=>⟨h0,ai (e2.symm.trans h)⟩,?_,trivial⟩;unfold nM rU;have h1:decide (i<0)=false:=cS (by omega);rw[e2,h1,Bool.false_or];by_cases h:i<(ls.length:Int);rw[dh h,cS (by omega:¬((ls.length:Int)<=i))];rfl;rw[cS h,dh (by omega:(ls.length:Int)<=i)];rfl
theorem agm:aQ Tryz.prog 114 Mz:=aQ.cH (l:=[]) (A:=fun _=>az) aL trivial Tryz.func114 (by rfl) (by rfl) fun x hw hp=>anf x.1 x.2.1 hp
theorem YM(p:ab)(b9:List Bool)(e:Int):tV p b9 e=bif(bif(bif decide (e>=0)then decide (e<(b9.length:Int))else false)then b9.getD e.toNat false else false)then(bif decide (e>=(p.1.length:Int))then true else(p.1.getD e.toNat ([],0,0)).2.1!=4)else false:=by unfold tV pP bj;by_cases h0:0<=e;rw[dh h0,cS (by omega:¬e<0)];by_cases h1:e<(b9.length:Int);rw[dh h1];cases b9.getD e.toNat false;simp;by_cases h2:e>=(p.1.length:Int);rw[dh h2];simp;rw[cS h2];show(!((p.1.getD e.toNat zE).2.1==4)&&true)=((p.1.getD e.toNat zE).2.1!=4);rw[Bool.and_true];rfl;rw[cS h1];simp;rw[cS h0];simp
theorem v61(c:(ab)×List (ah))(ls:List (Int×Int×Bool×List Bool))(b9:List Bool)(s:Int):aq (ao aJ [(114,Mz)]) Tryz.f61 XK (a61 (c,ls,b9,s,())) (c,ls,b9,s,())=( U (c.1.2.2.1.getD s.toNat ([],((0:Int),(0:Int)),false)).2.1.1 fun(y4:Int)=>U (bif decide (y4>=(0:Int))then decide (y4<(b9.length:Int))else false) fun(y5:Bool)=>U (bif y5 then b9.getD y4.toNat false else false) fun(y6:Bool)=>U (decide (y4>=(c.1.1.length:Int))) fun(y7:Bool)=>U ((0:Int),(0:Int),(0:Int),[],[],[],[],[],false) fun(y8:ah)=>aY s c.1.2.2.1.length/\(y5=true->aY y4 b9.length)/\(y6=true->y7=false->aY y4 c.1.1.length)/\(∃(wN:Nat),(wN<=c.2.length/\cu (oO c ls s) wN=false)/\(wN:Int)=(0:Int)/\(BC c ls b9 s wN=bif y6 then bif y7 then true else(c.1.1.getD y4.toNat ([],(0:Int),(0:Int))).2.1!=(4:Int)else false)/\ls=ls/\b9=b9/\s=s/\y4=y4/\c.2=c.2/\(c.2.length:Int)=(c.2.length:Int)/\aH c.1 (c.2=c.2/\True))/\∀(s9:Nat),U (decide ((s9:Int)<(c.2.length:Int))) fun(bM:Bool)=>U (BC c ls b9 s s9) fun(bO:Bool)=>U (c.2.getD (s9:Int).toNat y8) fun(bz:ah)=>s9<=c.2.length/\cu (oO c ls s) s9=false->(bM=true->aY (s9:Int) c.2.length/\(0:Int)<=(s9:Int)/\((!nM ls (s9:Int))=true->bE IntKind.i64 ((s9:Int)+(1:Int))/\∃(fq:Nat),(fq<=c.2.length/\cu (oO c ls s) fq=false)/\c.2.length-fq<c.2.length-s9/\(fq:Int)=(s9:Int)+(1:Int)/\BC c ls b9 s fq=bO/\ls=ls/\b9=b9/\s=s/\y4=y4/\c.2=c.2/\(c.2.length:Int)=(c.2.length:Int)/\aH c.1 (c.2=c.2/\True))/\((!nM ls (s9:Int))=false->((bz.1==s)=true->false=mg c ls b9 s/\True)/\((bz.1==s)=false->bE IntKind.i64 ((s9:Int)+(1:Int))/\∃(fq:Nat),(fq<=c.2.length/\cu (oO c ls s) fq=false)/\c.2.length-fq<c.2.length-s9/\(fq:Int)=(s9:Int)+(1:Int)/\(BC c ls b9 s fq=bif bO then true else bif bz.2.2.1==(1:Int)then bz.2.1==s else false)/\ls=ls/\b9=b9/\s=s/\y4=y4/\c.2=c.2/\(c.2.length:Int)=(c.2.length:Int)/\aH c.1 (c.2=c.2/\True))))/\(bM=false->bO=mg c ls b9 s/\True)):=by kernel_rfl
theorem b61(c:aN)(ls:List bm)(b9:List Bool)(s:Int)(hs:0<=s/\s<(c.1.2.2.1.length:Int))(hl:c.2.length<=bu):aq (ao aJ [(114,Mz)]) Tryz.f61 XK (a61 (c,ls,b9,s,())) (c,ls,b9,s,()):=by
 rw[v61];simp only[ef,aC,au,bA];refine U.mk fun y4 e4=>U.mk fun y5 e5=>U.mk fun y6 e6=>U.mk fun y7 e7=>U.mk fun y8 e8=>⟨hs,fun h=>?_,fun h h'=>?_,⟨0,⟨c8 _,rfl⟩,rfl,?_⟩,fun k=>U.mk fun bM fz=>U.mk fun bO gv=>U.mk fun bz gp=>?_⟩;obtain⟨q1,q2⟩:=vI (e5.symm.trans h);exact⟨ai q1,ai q2⟩;have:=av (e7.symm.trans h');obtain⟨q1,q2⟩:=vI (e5.symm.trans (vI (e6.symm.trans h)).1);have:=ai q1;exact⟨this,by omega⟩;unfold BC;rw[YM,e6,e5,e7,e4];show(_||false)=_;rw[Bool.or_false];rfl;rw[aj]at gp;rintro⟨hk,hn⟩;have hb:oO c ls s k=((bz.1==s)&&nM ls (k:Int)):=by rw[gp,e8];rfl
 have hd:wW c ls s k=(bz.2.2.1==1&&(bz.2.1==s&&nM ls (k:Int))):=by rw[gp,e8];rfl
 have hup:BC c ls b9 s (k+1)=(bO||wW c ls s k):=by rw[gv];unfold BC;show(_||(_||_))=_;rw[Bool.or_assoc]
 refine⟨fun h=>?_,fun h=>?_⟩;have iY:k<c.2.length:=by have:=ai (fz.symm.trans h);omega
 refine⟨⟨by omega,by omega⟩,by omega,fun ha=>?_,fun ha=>⟨fun hf=>?_,fun hf=>?_⟩⟩;have ha:nM ls (k:Int)=false:=by simpa using ha
 refine⟨dG (by omega) hl,k+1,⟨by omega,il hn (by rw[hb,ha,Bool.and_false])⟩,by omega,by omega,?_⟩;rw[hup,hd,ha];simp;have ha:nM ls (k:Int)=true:=by simpa using ha
 unfold mg;rw[nf iY (by rw[hb,hf,ha];rfl)];rfl;have ha:nM ls (k:Int)=true:=by simpa using ha
 refine⟨dG (by omega) hl,k+1,⟨by omega,il hn (by rw[hb,hf];rfl)⟩,by omega,by omega,?_⟩;rw[hup,hd,ha,Bool.and_true];cases bO<;>cases(bz.2.2.1==1)<;>rfl;have hge:k=c.2.length:=by have:=av (fz.symm.trans h);omega
 unfold mg;rw[<-hge,hn,gv];rfl
theorem akl:aQ Tryz.prog 61 XK:=aQ.cH (l:=[(114,Mz)]) (A:=a61) aL ⟨agm,trivial⟩ Tryz.func61 (by rfl) (by rfl) fun x hw hp=>b61 x.1 x.2.1 x.2.2.1 x.2.2.2.1 hp hw.1.2.1
theorem JT{c:aN}{ls:List bm}{b9:List Bool}{s:Nat}(h:((c.1.2.2.1.getD s zS).2.2&&mg c ls b9 (s:Int))=false):r5 c ls b9 s=[]:=by unfold r5;rw[h];rfl
theorem GP{c:aN}{ls:List bm}{b9:List Bool}{s:Nat}(h:((c.1.2.2.1.getD s zS).2.2&&mg c ls b9 (s:Int))=true):r5 c ls b9 s=tn c (s:Int):=by unfold r5;rw[h];rfl
theorem pI(c:aN)(ls:List bm)(b9:List Bool)(s:Nat):gb c ls b9 (s+1)=gb c ls b9 s++r5 c ls b9 s:=rfl
theorem v17(c:(ab)×List (ah))(ls:List (Int×Int×Bool×List Bool))(b9:List Bool):aq (ao aJ [(61,XK)]) Tryz.f17 c17 (a17 (c,ls,b9,())) (c,ls,b9,())=((∃(gk:Nat),gk<=c.1.2.2.1.length/\(gk:Int)=(0:Int)/\ls=ls/\b9=b9/\c.1.2.2.1=c.1.2.2.1/\(c.1.2.2.1.length:Int)=(c.1.2.2.1.length:Int)/\gb c ls b9 gk=[]/\aH c.1 (c.2=c.2/\True))/\∀(s3:Nat),U (decide ((s3:Int)<(c.1.2.2.1.length:Int))) fun(y4:Bool)=>U (!(c.1.2.2.1.getD (s3:Int).toNat ([],((0:Int),(0:Int)),false)).2.2) fun(y5:Bool)=>U (bif y5 then true else !mg c ls b9 (s3:Int)) fun(y6:Bool)=>s3<=c.1.2.2.1.length->(y4=true->aY (s3:Int) c.1.2.2.1.length/\(y5=false->(0:Int)<=(s3:Int)/\(s3:Int)<(c.1.2.2.1.length:Int))/\(y6=true->bE IntKind.i64 ((s3:Int)+(1:Int))/\∃(lA:Nat),lA<=c.1.2.2.1.length/\c.1.2.2.1.length-lA<c.1.2.2.1.length-s3/\(lA:Int)=(s3:Int)+(1:Int)/\ls=ls/\b9=b9/\c.1.2.2.1=c.1.2.2.1/\(c.1.2.2.1.length:Int)=(c.1.2.2.1.length:Int)/\gb c ls b9 lA=gb c ls b9 s3/\aH c.1 (c.2=c.2/\True))/\(y6=false->(∃(jO:Nat),(jO<=c.2.length/\cu (kN c (s3:Int)) jO=false)/\(jO:Int)=(0:Int)/\ls=ls/\b9=b9/\(s3:Int)=(s3:Int)/\c.1.2.2.1=c.1.2.2.1/\(c.1.2.2.1.length:Int)=(c.1.2.2.1.length:Int)/\(s3:Int)=(s3:Int)/\c.2=c.2/\(c.2.length:Int)=(c.2.length:Int)/\aH c.1 (c.2=c.2/\gb c ls b9 s3=gb c ls b9 s3/\True))/\∀(s7:Nat),U (decide ((s7:Int)<(c.2.length:Int))) fun(y8:Bool)=>U (c.2.getD (s7:Int).toNat ((0:Int),(0:Int),(0:Int),[],[],[],[],[],false)) fun(y9:ah)=>U (bif y9.1==(s3:Int)then !y9.2.2.2.2.2.2.2.2 else false) fun(bM:Bool)=>U ((List.replicate (1:Nat) (0:Int)).set (0:Nat) (s7:Int)) fun(bO:List Int)=>s7<=c.2.length/\cu (kN c (s3:Int)) s7=false->(y8=true->aY (s7:Int) c.2.length/\(bM=true->roomFor ((gb c ls b9 s3).length+bO.length) (8:Nat)/\bE IntKind.i64 ((s3:Int)+(1:Int))/\∃(jg:Nat),jg<=c.1.2.2.1.length/\c.1.2.2.1.length-jg<c.1.2.2.1.length-s3/\(jg:Int)=(s3:Int)+(1:Int)/\ls=ls/\b9=b9/\c.1.2.2.1=c.1.2.2.1/\(c.1.2.2.1.length:Int)=(c.1.2.2.1.length:Int)/\gb c ls b9 jg=gb c ls b9 s3++bO/\aH c.1 (c.2=c.2/\True))/\(bM=false->bE IntKind.i64 ((s7:Int)+(1:Int))/\∃(jg:Nat),(jg<=c.2.length/\cu (kN c (s3:Int)) jg=false)/\c.2.length-jg<c.2.length-s7/\(jg:Int)=(s7:Int)+(1:Int)/\ls=ls/\b9=b9/\(s3:Int)=(s3:Int)/\c.1.2.2.1=c.1.2.2.1/\(c.1.2.2.1.length:Int)=(c.1.2.2.1.length:Int)/\(s3:Int)=(s3:Int)/\c.2=c.2/\(c.2.length:Int)=(c.2.length:Int)/\aH c.1 (c.2=c.2/\gb c ls b9 s3=gb c ls b9 s3/\True)))/\(y8=false->bE IntKind.i64 ((s3:Int)+(1:Int))/\∃(jg:Nat),jg<=c.1.2.2.1.length/\c.1.2.2.1.length-jg<c.1.2.2.1.length-s3/\(jg:Int)=(s3:Int)+(1:Int)/\ls=ls/\b9=b9/\c.1.2.2.1=c.1.2.2.1/\(c.1.2.2.1.length:Int)=(c.1.2.2.1.length:Int)/\gb c ls b9 jg=gb c ls b9 s3/\aH c.1 (c.2=c.2/\True))))/\(y4=false->gb c ls b9 s3=j6 c ls b9/\True)):=by kernel_rfl
theorem b17(c:aN)(ls:List bm)(b9:List Bool)(hs:c.1.2.2.1.length<=1000)(hl:c.2.length<=bu):aq (ao aJ [(61,XK)]) Tryz.f17 c17 (a17 (c,ls,b9,())) (c,ls,b9,()):=by
 rw[v17];simp only[ef,aC,au,bA];refine⟨⟨0,c8 _,rfl,rfl⟩,fun s=>U.mk fun y4 e4=>U.mk fun y5 e5=>U.mk fun y6 e6=>fun hk=>⟨fun h=>?_,fun h=>?_⟩⟩;have iY:s<c.1.2.2.1.length:=by have:=ai (e4.symm.trans h);omega
 rw[aj]at e5;have QC:(c.1.2.2.1.getD s zS).2.2=!y5:=by rw[e5,js];rfl
 have pC:=wx c ls b9 s;refine⟨⟨by omega,by omega⟩,fun _=>⟨by omega,by omega⟩,fun h6=>?_,fun h6=>⟨⟨0,⟨c8 _,rfl⟩,rfl⟩,fun k=>U.mk fun y8 e8=>U.mk fun y9 e9=>U.mk fun bM fz=>U.mk fun bO gv=>?_⟩⟩;refine⟨bC (by omega) (by omega),s+1,by omega,by omega,by omega,?_⟩;rw[pI,JT (by rw[QC];have h7:=e6.symm.trans h6;clear e5 e6 QC;generalize mg c ls b9 (s:Int)=w at h7⊢;revert h7;cases y5<;>cases w<;>decide),List.append_nil];have hY:((c.1.2.2.1.getD s zS).2.2&&mg c ls b9 (s:Int))=true:=by rw[QC];have h7:=e6.symm.trans h6;clear e5 e6 QC;generalize mg c ls b9 (s:Int)=w at h7⊢;revert h7;cases y5<;>cases w<;>decide
 rw[aj]at e9;rintro⟨hk,hn⟩;have hfa:kN c (s:Int) k=bM:=by have h9:c.2.getD k zR=y9:=e9.symm;unfold kN;rw[fz,h9];cases(y9.1==(s:Int))<;>rfl
 refine⟨fun h8=>?_,fun h8=>?_⟩;have Qv:k<c.2.length:=by have:=ai (e8.symm.trans h8);omega
 refine⟨⟨by omega,by omega⟩,fun qi=>⟨dt (by rw[gv];show _+1<=_;omega) (by omega),bC (by omega) (by omega),s+1,by omega,by omega,by omega,?_⟩,fun qi=>⟨dG (by omega) hl,k+1,⟨by omega,il hn (hfa.trans qi)⟩,by omega,by omega⟩⟩;rw[pI,GP hY,TW Qv hn (hfa.trans qi),gv];rfl;have Qv:k=c.2.length:=by have:=av (e8.symm.trans h8);omega
 refine⟨bC (by omega) (by omega),s+1,by omega,by omega,by omega,?_⟩;rw[pI,GP hY,TV (by rw[<-Qv];exact hn),List.append_nil];have:s=c.1.2.2.1.length:=by have:=av (e4.symm.trans h);omega
 unfold j6;rw[this]
theorem akx:aQ Tryz.prog 17 c17:=aQ.cH (l:=[(61,XK)]) (A:=a17) aL ⟨akl,trivial⟩ Tryz.func17 (by rfl) (by rfl) fun x hw hp=>b17 x.1 x.2.1 x.2.2.1 hp hw.1.2.1
theorem SR:aQ Tryz.prog 17 BZ:=akx.Em rfl
theorem QR(f:Nat->Bool)(k:Nat):oD (dZ f (k+1))=bif decide (oD (dZ f k)<0)&&f k then(k:Int)else oD (dZ f k):=by unfold dZ;rw[gN,List.find?_append];cases h:(List.range k).find? f with|some i=>show(i:Int)=bif decide ((i:Int)<0)&&f k then(k:Int)else(i:Int);rw[cS (by omega:¬(i:Int)<0)];rfl|none=>show oD (List.find? f [k])=bif decide ((-1:Int)<0)&&f k then(k:Int)else-1;cases hf:f k<;>simp[hf,oD]
theorem TU(c:aN)(s:Int):tn c s=bif decide (lu c s c.2.length>=0)then[lu c s c.2.length]else[]:=by unfold tn lu;cases dZ (kN c s) c.2.length with|none=>rfl|some i=>show[(i:Int)]=bif decide ((i:Int)>=0)then[(i:Int)]else[];rw[dh (by omega:(i:Int)>=0)];rfl
theorem v18(c:(ab)×List (ah))(ls:List (Int×Int×Bool×List Bool))(b9:List Bool):aq (ao aJ [(62,Rc),(63,Rb)]) Tryz.f18 c18 (a18 (c,ls,b9,())) (c,ls,b9,())=( U ([],((0:Int),(0:Int)),false) fun(y3:List UInt8×(Int×Int)×Bool)=>(∃(ui:Nat),ui<=c.1.2.2.1.length/\(ui:Int)=(0:Int)/\ls=ls/\b9=b9/\gb c ls b9 ui=[]/\aH c.1 (c.2=c.2/\True))/\∀(s4:Nat),U (decide ((s4:Int)<(c.1.2.2.1.length:Int))) fun(y5:Bool)=>U (c.1.2.2.1.getD (s4:Int).toNat y3).2 fun(y6:(Int×Int)×Bool)=>s4<=c.1.2.2.1.length->(y5=true->aY (s4:Int) c.1.2.2.1.length/\((!y6.2)=true->bE IntKind.i64 ((s4:Int)+(1:Int))/\∃(lA:Nat),lA<=c.1.2.2.1.length/\c.1.2.2.1.length-lA<c.1.2.2.1.length-s4/\(lA:Int)=(s4:Int)+(1:Int)/\ls=ls/\b9=b9/\gb c ls b9 lA=gb c ls b9 s4/\aH c.1 (c.2=c.2/\True))/\((!y6.2)=false->(∃(jO:Nat),jO<=c.2.length/\lu c (s4:Int) jO=(-1:Int)/\cu (oO c ls (s4:Int)) jO=false/\cu (wW c ls (s4:Int)) jO=false/\(jO:Int)=(0:Int)/\ls=ls/\b9=b9/\(s4:Int)=(s4:Int)/\aH c.1 (c.2=c.2/\gb c ls b9 s4=gb c ls b9 s4/\True))/\∀(s7:Nat),U (decide ((s7:Int)<(c.2.length:Int))) fun(y8:Bool)=>U (cu (oO c ls (s4:Int)) s7) fun(y9:Bool)=>U (c.2.getD (s7:Int).toNat ((0:Int),(0:Int),(0:Int),[],[],[],[],[],false)) fun(bM:ah)=>U (cu (wW c ls (s4:Int)) s7) fun(bO:Bool)=>U (bif bM.2.2.1==(1:Int)then bM.2.1==(s4:Int)else false) fun(bz:Bool)=>U (rU ls (s7:Int)!=(0:Int)) fun(cG:Bool)=>U (bif decide (lu c (s4:Int) s7>=(0:Int))then !y9 else false) fun(dA:Bool)=>U (bif dA then bif bO then true else tV c.1 b9 y6.1.1 else false) fun(bR:Bool)=>U ((List.replicate (1:Nat) (0:Int)).set (0:Nat) (lu c (s4:Int) s7)) fun(dv:List Int)=>s7<=c.2.length->(y8=true->aY (s7:Int) c.2.length/\(y9=false->(bM.1==(s4:Int))=true->True)/\(bO=false->bz=true->True)/\bE IntKind.i64 ((s7:Int)+(1:Int))/\∃(lX:Nat),lX<=c.2.length/\c.2.length-lX<c.2.length-s7/\(lu c (s4:Int) lX=bif bif bif bM.1==(s4:Int)then decide (lu c (s4:Int) s7<(0:Int))else false then !bM.2.2.2.2.2.2.2.2 else false then(s7:Int)else lu c (s4:Int) s7)/\(cu (oO c ls (s4:Int)) lX=bif y9 then true else bif bM.1==(s4:Int)then cG else false)/\(cu (wW c ls (s4:Int)) lX=bif bO then true else bif bz then cG else false)/\(lX:Int)=(s7:Int)+(1:Int)/\ls=ls/\b9=b9/\(s4:Int)=(s4:Int)/\aH c.1 (c.2=c.2/\gb c ls b9 s4=gb c ls b9 s4/\True))/\(y8=false->(dA=true->bO=false->aY (s4:Int) c.1.2.2.1.length)/\(dA=true->bO=false->True)/\(bR=true->roomFor ((gb c ls b9 s4).length+dv.length) (8:Nat)/\bE IntKind.i64 ((s4:Int)+(1:Int))/\∃(lX:Nat),lX<=c.1.2.2.1.length/\c.1.2.2.1.length-lX<c.1.2.2.1.length-s4/\(lX:Int)=(s4:Int)+(1:Int)/\ls=ls/\b9=b9/\gb c ls b9 lX=gb c ls b9 s4++dv/\aH c.1 (c.2=c.2/\True))/\(bR=false->bE IntKind.i64 ((s4:Int)+(1:Int))/\∃(lX:Nat),lX<=c.1.2.2.1.length/\c.1.2.2.1.length-lX<c.1.2.2.1.length-s4/\(lX:Int)=(s4:Int)+(1:Int)/\ls=ls/\b9=b9/\gb c ls b9 lX=gb c ls b9 s4/\aH c.1 (c.2=c.2/\True)))))/\(y5=false->gb c ls b9 s4=j6 c ls b9/\True)):=by kernel_rfl
theorem b18(c:aN)(ls:List bm)(b9:List Bool)(hs:c.1.2.2.1.length<=1000)(hl:c.2.length<=bu):aq (ao aJ [(62,Rc),(63,Rb)]) Tryz.f18 c18 (a18 (c,ls,b9,())) (c,ls,b9,()):=by
 rw[v18];simp only[ef,aC,au,bA,implies_true];refine U.mk fun y3 e3=>⟨⟨0,c8 _,rfl,rfl⟩,fun s=>U.mk fun y5 e5=>U.mk fun y6 e6=>fun hk=>⟨fun h=>?_,fun h=>?_⟩⟩;have iY:s<c.1.2.2.1.length:=by have:=ai (e5.symm.trans h);omega
 rw[aj]at e6;have QC:(c.1.2.2.1.getD s zS).2=y6:=by rw[e6,e3];rfl
 have pC:=wx c ls b9 s;refine⟨⟨by omega,by omega⟩,fun h6=>?_,fun h6=>⟨⟨0,c8 _,rfl,rfl,rfl,rfl⟩,fun k=>U.mk fun y8 e8=>U.mk fun y9 e9=>U.mk fun bM fz=>U.mk fun bO gv=>U.mk fun bz gp=>U.mk fun cG kf=>U.mk fun dA mX=>U.mk fun bR lT=>U.mk fun dv nV=>fun hk=>⟨fun h8=>?_,fun h8=>?_⟩⟩⟩;refine⟨bC (by omega) (by omega),s+1,by omega,by omega,by omega,?_⟩;rw[pI,JT (by rw[QC];cases h:y6.2<;>simp_all),List.append_nil];have Qv:k<c.2.length:=by have:=ai (e8.symm.trans h8);omega
 rw[aj]at fz;have aeh:nM ls (k:Int)=cG:=by rw[kf];rfl
 refine⟨⟨by omega,by omega⟩,dG (by omega) hl,k+1,by omega,by omega,?_,?_,?_,by omega⟩;show oD (dZ (kN c (s:Int)) (k+1))=_;rw[QR];have:kN c (s:Int) k=((bM.1==(s:Int))&&!bM.2.2.2.2.2.2.2.2):=by rw[fz];rfl
 rw[this];show(bif decide (lu c (s:Int) k<0)&&_ then(k:Int)else lu c (s:Int) k)=_;cases decide (lu c (s:Int) k<0)<;>cases(bM.1==(s:Int))<;>cases bM.2.2.2.2.2.2.2.2<;>rfl;show(cu (oO c ls (s:Int)) k||oO c ls (s:Int) k)=_;have:oO c ls (s:Int) k=((bM.1==(s:Int))&&cG):=by rw[<-aeh,fz];rfl
 rw[this,<-e9];cases y9<;>cases(bM.1==(s:Int))<;>rfl;show(cu (wW c ls (s:Int)) k||wW c ls (s:Int) k)=_;have:wW c ls (s:Int) k=(bM.2.2.1==1&&(bM.2.1==(s:Int)&&cG)):=by rw[<-aeh,fz];rfl
 rw[this,<-gv,gp];cases bO<;>cases(bM.2.2.1==(1:Int))<;>cases(bM.2.1==(s:Int))<;>rfl;have Qv:k=c.2.length:=by have:=av (e8.symm.trans h8);omega
 have alz:(c.1.2.2.1.getD s zS).2.2=true:=by rw[QC];simpa using h6
 have hY:r5 c ls b9 s=bif bR then[lu c (s:Int) k]else[]:=by unfold r5 mg BC;rw[alz,TU,<-Qv,<-e9,<-gv,lT,mX];(have hb:OQ c.1 (s:Int)=y6.1.1:=by unfold OQ;rw[aj,QC]);rw[hb];cases decide (lu c (s:Int) k>=0)<;>cases y9<;>cases bO<;>cases tV c.1 b9 y6.1.1<;>rfl
 refine⟨fun _ _=>⟨by omega,by omega⟩,fun QI=>⟨dt (by rw[nV];show _+1<=_;omega) (by omega),bC (by omega) (by omega),s+1,by omega,by omega,by omega,?_⟩,fun QI=>⟨bC (by omega) (by omega),s+1,by omega,by omega,by omega,?_⟩⟩;rw[pI,hY,QI,nV];rfl;rw[pI,hY,QI];exact List.append_nil _;have:s=c.1.2.2.1.length:=by have:=av (e5.symm.trans h);omega
 unfold j6;rw[this]
theorem akw:aQ Tryz.prog 18 c18:=aQ.cH (l:=[(62,Rc),(63,Rb)]) (A:=a18) aL ⟨akk,akj,trivial⟩ Tryz.func18 (by rfl) (by rfl) fun x hw hp=>b18 x.1 x.2.1 x.2.2.1 hp hw.1.2.1
theorem afJ:aQ Tryz.prog 18 Vz:=akw.Em rfl
theorem ado{o:xN×Int}(h:o.2=0)(n:Nat):yA o n=((o.1.1,o.1.2.1,o.1.2.2.take n),0):=by unfold yA;rw[h];rfl
theorem adp{o:xN×Int}(h:o.2=1)(n:Nat):yA o n=(([],[],[]),1):=by unfold yA;rw[h];rfl
theorem v23(W:((ab)×List (ah))×List (Int×Int×Bool×List Bool)×(aA)×(Option (bt)×List ((Int×Int)×Bool))×List Int)(inn:List Bool×List Int×List Bool×List Bool)(calls:List Int)(ax:List Int):ck (ao aJ [(28,KK),(27,JX),(17,BZ),(24,XN)]) Tryz.f23 XO az (W,inn,calls,ax,())=( U (j6 (da W.1.1).1 W.2.1 inn.1) fun(y4:List Int)=>U (fP W inn (calls++y4) ax) fun(y5:fa×xN×Int)=>U (pb W inn calls ax).2 fun(y6:xN×Int)=>U (pb W inn calls ax).1 fun(y7:fa)=>roomFor calls.length (8:Nat)/\c9 W.1.1/\kD W/\(da W.1.1).1.1.2.2.1.length<=(1000:Nat)/\roomFor (calls.length+y4.length) (8:Nat)/\H2 W inn (calls++y4) ax/\((y5.2.2!=(0:Int))=true->([],[],[])=y6.1/\y5.2.2=y6.2/\y5.1.1=y7.1/\y5.1.2.1=y7.2.1/\y5.1.2.2.1.1=y7.2.2.1.1/\y5.1.2.2.1.2.1.Perm y7.2.2.1.2.1/\y5.1.2.2.1.2.2.1.Perm y7.2.2.1.2.2.1/\y5.1.2.2.1.2.2.2.1.Perm y7.2.2.1.2.2.2.1/\y5.1.2.2.1.2.2.2.2.Perm y7.2.2.1.2.2.2.2/\y5.1.2.2.2.1.1=y7.2.2.2.1.1/\y5.1.2.2.2.1.2.Perm y7.2.2.2.1.2/\y5.1.2.2.2.2=y7.2.2.2.2/\True)/\((y5.2.2!=(0:Int))=false->((0:Int)<=(calls.length:Int)/\(calls.length:Int)<=(y5.2.1.2.2.length:Int))/\(y5.2.1.1,y5.2.1.2.1,List.take (calls.length:Int).toNat y5.2.1.2.2)=y6.1/\(0:Int)=y6.2/\y5.1.1=y7.1/\y5.1.2.1=y7.2.1/\y5.1.2.2.1.1=y7.2.2.1.1/\y5.1.2.2.1.2.1.Perm y7.2.2.1.2.1/\y5.1.2.2.1.2.2.1.Perm y7.2.2.1.2.2.1/\y5.1.2.2.1.2.2.2.1.Perm y7.2.2.1.2.2.2.1/\y5.1.2.2.1.2.2.2.2.Perm y7.2.2.1.2.2.2.2/\y5.1.2.2.2.1.1=y7.2.2.2.1.1/\y5.1.2.2.2.1.2.Perm y7.2.2.2.1.2/\y5.1.2.2.2.2=y7.2.2.2.2/\True)):=by kernel_rfl
theorem b23(W:fa)(inn:ff)(calls ax:List Int)(hp:Ej W calls ax):ck (ao aJ [(28,KK),(27,JX),(17,BZ),(24,XN)]) Tryz.f23 XO az (W,inn,calls,ax,()):=by
 obtain⟨h,hc,hx⟩:=hp;rw[v23];refine U.mk fun y4 e4=>U.mk fun y5 e5=>U.mk fun y6 e6=>U.mk fun y7 e7=>?_;have ho:(da W.1.1).1=W.1:=by rw[h.own]
 rw[ho]at e4;have h5:y5=fP W inn (pw W inn calls) ax:=by rw[e5,e4];rfl
 have hlen:=h.calls inn hc;have hl4:calls.length+y4.length<=1000:=by(have:(pw W inn calls).length=calls.length+y4.length:=by rw[e4];exact c4);omega
 have ha:=Kn W inn (pw W inn calls) ax;rw[<-h5]at ha;have h6:y6=yA y5.2 calls.length:=by rw[e6,h5];unfold pb;rfl
 have h7:y7=y5.1:=by rw[e7,h5];unfold pb;rfl
 have hs:(da W.1.1).1.1.2.2.1.length<=1000:=by rw[ho];have:=h.inv.BT.sigs;omega
 clear e4 e5 e6 e7 h5;subst h7;refine⟨dt (by omega) (by omega),h.short,h.inv,hs,dt (by omega) (by omega),⟨h.inv,by rw[c4];omega,hx⟩,fun he=>?_,fun he=>?_⟩;rcases ha with⟨q1,q2⟩|⟨q1,q2⟩;rw[q1]at he;cases he;rw[h6,adp q1];exact⟨rfl,q1,rfl,rfl,rfl,.refl _,.refl _,.refl _,.refl _,rfl,.refl _,rfl,trivial⟩;rcases ha with⟨q1,q2⟩|⟨q1,q2⟩;rw[h6,ado q1];refine⟨⟨by omega,?_⟩,rfl,rfl,rfl,rfl,rfl,.refl _,.refl _,.refl _,.refl _,rfl,.refl _,rfl,trivial⟩;rw[q2];unfold pw;rw[c4];omega;rw[q1]at he;cases he
theorem aku:fI Tryz.prog 23 XO:=fI.cH (l:=[(28,KK),(27,JX),(17,BZ),(24,XN)]) (A:=fun _=>az) aL ⟨adW,adX,SR,akt,trivial⟩ Tryz.func23 (by rfl) (by rfl) fun x hw hp=>b23 x.1 x.2.1 x.2.2.1 x.2.2.2.1 hp
theorem ait:ck (ao aJ [(110,VF)]) Tryz.f57 Re az (())=( U ((10:Int),(5:Int),(15:Int),(2:Int),false) fun(y0:Int×Int×Int×Int×Bool)=>True/\True/\True/\True/\True/\((((((List.replicate (6:Nat) ([],(0:Int),(0:Int))).set (0:Nat) ([(87:UInt8)],(4:Int),(0:Int))).set (1:Nat) ([(65:UInt8)],(1:Int),(20:Int))).set (2:Nat) ([(80:UInt8)],(2:Int),(10:Int))).set (3:Nat) ([(66:UInt8)],(1:Int),(20:Int))).set (4:Nat) ([(67:UInt8)],(1:Int),(30:Int))).set (5:Nat) ([(69:UInt8)],(4:Int),(0:Int))=[([(87:UInt8)],(4:Int),(0:Int)),([(65:UInt8)],(1:Int),(20:Int)),([(80:UInt8)],(2:Int),(10:Int)),([(66:UInt8)],(1:Int),(20:Int)),([(67:UInt8)],(1:Int),(30:Int)),([(69:UInt8)],(4:Int),(0:Int))]/\(((((List.replicate (5:Nat) (((0:Int),(0:Int)),(0:Int),(0:Int))).set (0:Nat) (((0:Int),(0:Int)),(1:Int),(0:Int))).set (1:Nat) (((1:Int),(1:Int)),(2:Int),(0:Int))).set (2:Nat) (((2:Int),(1:Int)),(3:Int),(0:Int))).set (3:Nat) (((3:Int),(1:Int)),(5:Int),(0:Int))).set (4:Nat) (((2:Int),(2:Int)),(4:Int),(0:Int))=[(((0:Int),(0:Int)),(1:Int),(0:Int)),(((1:Int),(1:Int)),(2:Int),(0:Int)),(((2:Int),(1:Int)),(3:Int),(0:Int)),(((3:Int),(1:Int)),(5:Int),(0:Int)),(((2:Int),(2:Int)),(4:Int),(0:Int))]/\(((((List.replicate (5:Nat) ([],((0:Int),(0:Int)),false)).set (0:Nat) ([(119:UInt8)],((0:Int),(0:Int)),false)).set (1:Nat) ([(97:UInt8)],((1:Int),(1:Int)),false)).set (2:Nat) ([(101:UInt8)],((5:Int),(0:Int)),false)).set (3:Nat) ([(98:UInt8)],((3:Int),(0:Int)),false)).set (4:Nat) ([(99:UInt8)],((4:Int),(0:Int)),false)=[([(119:UInt8)],((0:Int),(0:Int)),false),([(97:UInt8)],((1:Int),(1:Int)),false),([(101:UInt8)],((5:Int),(0:Int)),false),([(98:UInt8)],((3:Int),(0:Int)),false),([(99:UInt8)],((4:Int),(0:Int)),false)]/\(([]:List lK),y0)=([],y0)/\True):=by kernel_rfl
theorem aeV:fI Tryz.prog 57 Re:=fI.cH (l:=[(110,VF)]) (A:=fun _=>az) aL ⟨agp,trivial⟩ Tryz.func57 (by rfl) (by rfl) fun x _ hp=>by obtain⟨⟩:=x;rw[ait];exact U.mk fun y0 e0=>⟨trivial,trivial,trivial,trivial,trivial,rfl,rfl,rfl,rfl,trivial⟩
def x5:ab:=(C0.1,C0.2.1,C0.2.2.1.set 1 ([97],(1,1),true),C0.2.2.2)
theorem Cc:(dC x5).2=true:=by kernel_rfl
def X3:fa:=gX (ba x5)
def aIn:ff:=(List.replicate 6 false,[0,0,1,0,0,0],List.replicate 5 false,List.replicate 5 false)
def RQ:=pb X3 aIn [0] []
def Hn:=pb RQ.1 aIn [] []
def aaW:Bool:=(j6 (ba x5) X3.2.1 [false,true]==[1])&&((RQ.2.2==0)&&((Hn.2.2==0)&&((RQ.2.1.2.2==[0])&&(((Hn.2.1.2.2.length:Int)==0)&&(((Hn.1.2.1.length:Int)==6)&&(((Hn.1.2.1.getD 1 gq).1==1)&&((Hn.1.2.1.getD 0 gq).1==2)))))))
theorem Ur:aaW=true:=by kernel_rfl
theorem RI{W:fa}(h:vL W)(inn:ff)(calls ax:List Int):vL (pb W inn calls ax).1:=YO h inn calls ax
theorem v14:aq (ao aJ [(57,Re),(21,Uf),(28,KK),(27,JX),(17,BZ),(23,XO),(16,OJ),(58,XL)]) Tryz.f14 XP az (())=( U [([(119:UInt8)],((0:Int),(0:Int)),false),([(97:UInt8)],((1:Int),(1:Int)),false),([(101:UInt8)],((5:Int),(0:Int)),false),([(98:UInt8)],((3:Int),(0:Int)),false),([(99:UInt8)],((4:Int),(0:Int)),false)] fun(y0:List gK)=>U [([(87:UInt8)],(4:Int),(0:Int)),([(65:UInt8)],(1:Int),(20:Int)),([(80:UInt8)],(2:Int),(10:Int)),([(66:UInt8)],(1:Int),(20:Int)),([(67:UInt8)],(1:Int),(30:Int)),([(69:UInt8)],(4:Int),(0:Int))] fun(y1:List ng)=>U (y0.set (Int.toNat (1:Int)) ([(97:UInt8)],((1:Int),(1:Int)),true)) fun(y2:List (List UInt8×(Int×Int)×Bool))=>U (y1,[(((0:Int),(0:Int)),(1:Int),(0:Int)),(((1:Int),(1:Int)),(2:Int),(0:Int)),(((2:Int),(1:Int)),(3:Int),(0:Int)),(((3:Int),(1:Int)),(5:Int),(0:Int)),(((2:Int),(2:Int)),(4:Int),(0:Int))],y2,[],(10:Int),(5:Int),(15:Int),(2:Int),false) fun(y3:ab)=>U (List.replicate (dC y3).1.length gq) fun(y4:List bm)=>U ((y3,(dC y3).1),y4,(max (0:Int) (min (y1.length:Int) (40:Int)),[],[],[],[]),(some (mV y3),[]),List.replicate y2.length (0:Int)) fun(y5:((ab)×List (ah))×List (Int×Int×Bool×List Bool)×(aA)×(Option (bt)×List ((Int×Int)×Bool))×List Int)=>U ((List.replicate (1:Nat) (0:Int)).set (0:Nat) (0:Int)) fun(y6:List Int)=>U (List.replicate (Int.toNat (6:Int)) false,((((((List.replicate (6:Nat) (0:Int)).set (0:Nat) (0:Int)).set (1:Nat) (0:Int)).set (2:Nat) (1:Int)).set (3:Nat) (0:Int)).set (4:Nat) (0:Int)).set (5:Nat) (0:Int),List.replicate (Int.toNat (5:Int)) false,List.replicate (Int.toNat (5:Int)) false) fun(y7:List Bool×List Int×List Bool×List Bool)=>U (pb y5 y7 y6 []).1 fun(y8:fa)=>U (pb y8 y7 [] []).1 fun(y9:fa)=>U (pb y5 y7 y6 []).2 fun(bM:xN×Int)=>U (pb y8 y7 [] []).2 fun(bO:xN×Int)=>U (bif bif j6 (da y3).1 y4 (((List.replicate (2:Nat) false).set (0:Nat) false).set (1:Nat) true)==(List.replicate (1:Nat) (0:Int)).set (0:Nat) (1:Int)then bM.2==(0:Int)else false then bO.2==(0:Int)else false) fun(bz:Bool)=>U (bif bif bif bz then bM.1.2.2==y6 else false then(bO.1.2.2.length:Int)==(0:Int)else false then(y9.2.1.length:Int)==(6:Int)else false) fun(cG:Bool)=>U ((0:Int),(0:Int),false,[]) fun(dA:Int×Int×Bool×List Bool)=>U (bif cG then(y9.2.1.getD (Int.toNat (1:Int)) dA).1==(1:Int)else false) fun(bR:Bool)=>True/\aY (1:Int) y0.length/\(dC y3).2=true/\(false=true->false=true/\True)/\(false=false->((0:Int)<=(6:Int)/\(6:Int)<=(6:Int))/\(roomFor (Int.toNat (6:Int)) (1:Nat)/\(6:Int)<=(bu:Int))/\((0:Int)<=(5:Int)/\(5:Int)<=(5:Int))/\(roomFor (Int.toNat (5:Int)) (1:Nat)/\(5:Int)<=(bu:Int))/\((0:Int)<=(5:Int)/\(5:Int)<=(5:Int))/\(roomFor (Int.toNat (5:Int)) (1:Nat)/\(5:Int)<=(bu:Int))/\c9 y3/\kD y5/\(da y3).1.1.2.2.1.length<=(1000:Nat)/\Ej y5 y6 []/\Ej y8 [] []/\kD y9/\True/\(bz=true->True)/\(cG=true->aY (1:Int) y9.2.1.length)/\(bR=true->aY (0:Int) y9.2.1.length)/\(bif bR then(y9.2.1.getD (Int.toNat (0:Int)) dA).1==(2:Int)else false)=true/\True)):=by kernel_rfl
theorem b14:aq (ao aJ [(57,Re),(21,Uf),(28,KK),(27,JX),(17,BZ),(23,XO),(16,OJ),(58,XL)]) Tryz.f14 XP az ():=by
 rw[v14];refine U.mk fun y0 e0=>U.mk fun y1 e1=>U.mk fun y2 e2=>U.mk fun y3 e3=>U.mk fun y4 e4=>U.mk fun y5 e5=>U.mk fun y6 e6=>U.mk fun y7 e7=>U.mk fun y8 e8=>U.mk fun y9 e9=>U.mk fun bM fz=>U.mk fun bO gv=>U.mk fun bz gp=>U.mk fun cG kf=>U.mk fun dA mX=>U.mk fun bR lT=>?_;have hs:=Ur;unfold aaW at hs;rw[ag,ag,ag,ag,ag,ag,ag]at hs;obtain⟨q1,q2,q3,q4,q5,q6,q7,q8⟩:=hs;have h0:vL X3:=RF Cc;have h1:vL RQ.1:=RI h0 _ _ _;have h2:vL Hn.1:=RI h1 _ _ _;have hb:da x5=(ba x5,0):=JR Cc;have E0:y0.length=5:=by rw[e0];rfl
 have E3:y3=x5:=by rw[e3,e2,e1,e0];rfl
 have E5:y5=X3:=by rw[e5,e4,E3,e2,e1,e0];rfl
 have E4:y4=X3.2.1:=by rw[e4,E3];rfl
 have E6:y6=[0]:=by rw[e6];rfl
 have E7:y7=aIn:=by rw[e7];rfl
 have E8:y8=RQ.1:=by rw[e8,E5,E7,E6];rfl
 have E9:y9=Hn.1:=by rw[e9,E8,E7];rfl
 have E10:bM=RQ.2:=by rw[fz,E5,E7,E6];rfl
 have E11:bO=Hn.2:=by rw[gv,E8,E7];rfl
 have E12:bz=true:=by rw[gp,E3,E4,E10,E11,hb];show(bif bif(j6 (ba x5) X3.2.1 [false,true]==[1])then RQ.2.2==0 else false then Hn.2.2==0 else false)=true;rw[q1,q2,q3];rfl
 have E13:cG=true:=by rw[kf,E12,E10,E11,E9,E6];show(bif bif(RQ.2.1.2.2==[0])then(Hn.2.1.2.2.length:Int)==0 else false then(Hn.1.2.1.length:Int)==6 else false)=true;rw[q4,q5,q6];rfl
 have E15:bR=true:=by rw[lT,E13,E9,mX];exact q7
 have hlen:Hn.1.2.1.length=6:=by have:=eq_of_beq q6;omega
 clear e0 e1 e2 e3 e4 e5 e6 e7 e8 e9 fz gv gp kf lT;subst E3 E5 E6 E7 E8 E9 E12 E13 E15;rw[hb,E0,hlen,mX];refine⟨trivial,⟨by decide,by decide⟩,Cc,fun h=>(by cases h),fun _=>⟨⟨by decide,by decide⟩,⟨dt (by decide) (by decide),by decide⟩,⟨by decide,by decide⟩,⟨dt (by decide) (by decide),by decide⟩,⟨by decide,by decide⟩,⟨dt (by decide) (by decide),by decide⟩,h0.short,h0.inv,by decide,⟨h0,by decide,by decide⟩,⟨h1,by decide,by decide⟩,h2.inv,trivial,fun _=>trivial,fun _=>⟨by decide,by decide⟩,fun _=>⟨by decide,by decide⟩,?_,trivial⟩⟩;exact q8
theorem aky:aQ Tryz.prog 14 XP:=aQ.cH (l:=[(57,Re),(21,Uf),(28,KK),(27,JX),(17,BZ),(23,XO),(16,OJ),(58,XL)]) (A:=fun _=>az) aL ⟨aeV,akv,adW,adX,SR,aku,adY,ako,trivial⟩ Tryz.func14 (by rfl) (by rfl) fun _ _ _=>b14
theorem v3(p:ab)(l:List (Int×Int×Bool×List Bool))(b9:List Bool):aq (ao aJ [(14,XP),(15,Ug),(17,BZ),(18,Vz),(16,OJ)]) Tryz.f3 c3 az (p,l,b9,())=( U (bif bif !(dC p).2 then true else decide ((l.length:Int)>(100:Int))then true else decide ((b9.length:Int)>(60:Int))) fun(y3:Bool)=>U (j6 (p,(dC p).1) l b9) fun(y4:List Int)=>True/\((!true)=true->false=true/\True)/\((!true)=false->True/\(y3=true->true=true/\True)/\(y3=false->p.2.2.1.length<=(1000:Nat)/\p.2.2.1.length<=(1000:Nat)/\True/\(y4==y4)=true/\True))):=by kernel_rfl
theorem b3(p:ab)(l:List bm)(b9:List Bool):aq (ao aJ [(14,XP),(15,Ug),(17,BZ),(18,Vz),(16,OJ)]) Tryz.f3 c3 az (p,l,b9,()):=by rw[v3];refine U.mk fun y3 e3=>U.mk fun y4 e4=>⟨trivial,fun h=>(by cases h),fun _=>⟨trivial,fun _=>⟨rfl,trivial⟩,fun h=>?_⟩⟩;(have hR:(dC p).2=true:=by cases hr:(dC p).2 with|true=>rfl|false=>rw[e3,hr]at h;cases h);have:=qO (uG hR).check;exact⟨by omega,by omega,trivial,by simp,trivial⟩
theorem ok3:aQ Tryz.prog 3 c3:=aQ.cH (l:=[(14,XP),(15,Ug),(17,BZ),(18,Vz),(16,OJ)]) (A:=fun _=>az) aL ⟨aky,adZ,SR,afJ,adY,trivial⟩ Tryz.func3 (by rfl) (by rfl) fun x hw hp=>b3 x.1 x.2.1 x.2.2.1
end YtklcddahddbjcaaGreat
end Go.Proofs
namespace Go.Proofs.YtklcddahddbjcaaGreat
open Go Go.Vc
open Go.ChangeShapes Go.WideShapes Go.ChangeAt Go.RowKit
open Go.ChangeMaps (open_string shut_string)
theorem own:ownKnob Tryz.prog.godebug=none:=by kernel_rfl
theorem laidOut:laidOutB Tryz.prog=true:=by kernel_rfl
theorem law_calls{P:Program}{f:Nat}{ts:List Ty}(h:aQ P f (UW ts)){W:World}{x:kC ts}{vs:List Value}(hv:mj (tR W) ts x vs):Calls P f vs.toArray W fun e w'=>e=.returned (.bool true)/\Below W.heap.size W w':=by refine(h.calls (tR W) W x vs (fun b o h=>h) hv trivial).mono fun e w'=>?_;rintro⟨v,F',rfl,_,_,_,hk,xv⟩;have xv:[v]=[Value.bool true]:=xv;simp only[fo,au]at xv;exact⟨by rw[xv],⟨hk.os,hk.tape,hk.output,hk.size,fun k Bm=>hk.block k Bm (fun h=>h)⟩⟩
end Go.Proofs.YtklcddahddbjcaaGreat
